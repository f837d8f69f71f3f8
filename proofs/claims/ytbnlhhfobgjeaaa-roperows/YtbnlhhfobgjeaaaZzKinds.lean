/-
  What an operation does to the heap, by its kind.
-/
import Derived.Test.YtbnlhhfobgjeaaaZzCongr
set_option linter.all false
namespace Go.Proofs.Ytbnlhhfobgjeaaa
open Go Go.RowKit

def Pu (g : AHeap → Res (AVal × AHeap)) : Prop := ∀ h v h', g h = .ok (v, h') → h' = h ∧ ∀ h2, g h2 = .ok (v, h2)
def Rd (g : AHeap → Res (AVal × AHeap)) : Prop := ∀ h v h', g h = .ok (v, h') → h' = h
def Al (g : AHeap → Res (AVal × AHeap)) : Prop := ∀ h v h', g h = .ok (v, h') → ∃ x, h' = h.push x ∧ ∀ h2 : AHeap, h2.next = h.next → g h2 = .ok (v, h2.push x)

theorem Pu.err {n : Nat} : Pu fun _ => .err n := fun _ _ _ hh => by cases hh
theorem Pu.ok {v : AVal} : Pu fun h => .ok (v, h) := fun _ _ _ hh => by cases hh; exact ⟨rfl, fun _ => rfl⟩
theorem Pu.pure {r : Res AVal} : Pu fun h => pureV h r := fun h v h' hh => by
  obtain ⟨a, rfl⟩ := pureV_ok hh
  exact ⟨rfl, fun h2 => by rw [a]; rfl⟩
theorem Pu.bind {α : Type} {m : Res α} {g : α → AHeap → Res (AVal × AHeap)} (hg : ∀ a, Pu (g a)) : Pu fun h => m.bind fun a => g a h := fun h v h' hh => by
  obtain ⟨a, h1, h2⟩ := Res.bind_ok hh
  obtain ⟨h3, h4⟩ := hg a h v h' h2
  exact ⟨h3, fun h2 => by simp only [h1, Res.ok_bind]; exact h4 h2⟩
theorem Pu.ite {p : Prop} [Decidable p] {g g' : AHeap → Res (AVal × AHeap)} (h : Pu g) (h' : Pu g') : Pu fun hp => if p then g hp else g' hp := by
  by_cases hp : p <;> simp [hp] <;> assumption

theorem Rd.err {n : Nat} : Rd fun _ => .err n := fun _ _ _ hh => by cases hh
theorem Rd.ok {v : AHeap → AVal} : Rd fun h => .ok (v h, h) := fun _ _ _ hh => by cases hh; rfl
theorem Rd.pure {r : AHeap → Res AVal} : Rd fun h => pureV h (r h) := fun h v h' hh => (pureV_ok hh).2
theorem Rd.bind {α : Type} {m : AHeap → Res α} {g : α → AHeap → Res (AVal × AHeap)} (hg : ∀ a, Rd (g a)) : Rd fun h => (m h).bind fun a => g a h := fun h v h' hh => by
  obtain ⟨a, h1, h2⟩ := Res.bind_ok hh
  exact hg a h v h' h2

theorem Al.err {n : Nat} : Al fun _ => .err n := fun _ _ _ hh => by cases hh
theorem Al.push {v : Nat → AVal} {x : AObj} : Al fun h => .ok (v h.next, h.push x) := fun _ _ _ hh => by cases hh; exact ⟨x, rfl, fun h2 hn => by simp only [hn]⟩
theorem Al.bind {α : Type} {m : Res α} {g : α → AHeap → Res (AVal × AHeap)} (hg : ∀ a, Al (g a)) : Al fun h => m.bind fun a => g a h := fun h v h' hh => by
  obtain ⟨a, h1, h2⟩ := Res.bind_ok hh
  obtain ⟨x, h3, h4⟩ := hg a h v h' h2
  exact ⟨x, h3, fun h2 hn => by simp only [h1, Res.ok_bind]; exact h4 h2 hn⟩
theorem Al.ite {p : Prop} [Decidable p] {g g' : AHeap → Res (AVal × AHeap)} (h : Al g) (h' : Al g') : Al fun hp => if p then g hp else g' hp := by
  by_cases hp : p <;> simp [hp] <;> assumption

section
variable {c : Cfg} {bad : List Nat} {env : List AVal} {loc : List Nat} {al : List (Nat × Nat)}

theorem binR_pu {op : BinOp} {t : Nat} {a b : AVal} (n1 : op ≠ .eql) (n2 : op ≠ .neq) : Pu fun h => pureV h (binR c h op t a b) := by
  have hb : ∀ g g' : AHeap, binR c g op t a b = binR c g' op t a b := by
    intro g g'
    unfold binR
    split <;> first | exact absurd rfl n1 | exact absurd rfl n2 | with_reducible rfl | (simp_all; done)
  intro h v h' hh
  obtain ⟨hv, rfl⟩ := pureV_ok hh
  exact ⟨rfl, fun g => by show pureV g (binR c g op t a b) = _; rw [hb g h', hv]; rfl⟩

theorem convR_pu {s d : Nat} {x : AVal} (hs : ∀ e, c.P.underlying s ≠ some (.slice e)) (g g' : AHeap) : convR c g s d x = convR c g' s d x := by
  unfold convR
  cases h1 : undR c.P s with
  | err n => rfl
  | ok ds =>
    cases h2 : undR c.P d with
    | err n => rfl
    | ok dd =>
      simp only [Res.ok_bind]
      have : ∀ e, ds ≠ .slice e := fun e he => hs e (by rw [undR_ok h1, he])
      cases ds with
      | slice e => exact absurd rfl (this e)
      | _ => cases dd <;> first | rfl | (cases x <;> rfl)

theorem opR_conv {o : Oper} {s d : Nat} {x : Operand} {a : AVal} {ds dd : TypeDesc} (hop : o.op = .convert s d x) (h1 : opnd bad env x = .ok a) (h2 : undR c.P s = .ok ds) (h3 : undR c.P d = .ok dd) (hdd : ∀ e, dd ≠ .slice e) (g : AHeap) :
    opR c bad env g o = pureV g (convR c g s d a) := by
  unfold opR
  rw [hop]
  simp only [h1, h2, h3, Res.ok_bind]
  cases dd with
  | slice e => exact absurd rfl (hdd e)
  | _ => rfl

theorem builtin_pu {b : Builtin} {ts : Array Nat} {args : List AVal} (hb : b = .max ∨ b = .min ∨ b = .complex ∨ b = .real ∨ b = .imag) : Pu fun h => builtinR c h b ts args := by
  unfold builtinR
  rcases hb with rfl | rfl | rfl | rfl | rfl
  · rcases args with _ | ⟨x, l⟩
    · exact Pu.err
    · exact Pu.bind fun v => Pu.ok
  · rcases args with _ | ⟨x, l⟩
    · exact Pu.err
    · exact Pu.bind fun v => Pu.ok
  · rcases args with _ | ⟨x, _ | ⟨y, _ | ⟨z, l⟩⟩⟩
    · exact Pu.err
    · cases x <;> exact Pu.err
    · cases x <;> first | exact Pu.err | (cases y <;> first | exact Pu.err | exact Pu.ite Pu.ok Pu.err)
    · cases x <;> first | exact Pu.err | (cases y <;> exact Pu.err)
  · rcases args with _ | ⟨x, _ | ⟨y, l⟩⟩
    · exact Pu.err
    · cases x <;> first | exact Pu.err | exact Pu.ok
    · cases x <;> exact Pu.err
  · rcases args with _ | ⟨x, _ | ⟨y, l⟩⟩
    · exact Pu.err
    · cases x <;> first | exact Pu.err | exact Pu.ok
    · cases x <;> exact Pu.err

theorem opR_pure {o : Oper} (hh : how loc al o = .plain) (hk : kindOf c.P loc al o = .pure) : Pu fun h => opR c bad env h o := by
  obtain ⟨dst, op, type, pos, after, guard⟩ := o
  unfold kindOf at hk
  rw [hh] at hk
  simp only at hk
  cases op <;> simp only [reduceCtorEq] at hk <;> simp only [opR]
  case pick x a b =>
    refine Pu.bind fun v => ?_
    split
    · exact Pu.pure
    · exact Pu.pure
    · exact Pu.err
  case binOp op xt x y t =>
    refine Pu.bind fun a => Pu.bind fun b => Pu.ite ?_ Pu.err
    exact binR_pu (fun hc => by subst hc; simp at hk) (fun hc => by subst hc; simp at hk)
  case convert s d x =>
    intro h v h' hq
    have hq0 := hq
    obtain ⟨a, h1, hq⟩ := Res.bind_ok hq
    obtain ⟨ds, h2, hq⟩ := Res.bind_ok hq
    obtain ⟨dd, h3, hq⟩ := Res.bind_ok hq
    rw [undR_ok h2, undR_ok h3] at hk
    have hdd : ∀ e, dd ≠ .slice e := by
      intro e he; subst he
      cases ds <;> simp at hk
    have hds : ∀ e, ds ≠ .slice e := by
      intro e he; subst he
      cases dd <;> simp at hk
    have hin := opR_conv (c := c) (bad := bad) (env := env) (o := ⟨dst, .convert s d x, type, pos, after, guard⟩) rfl h1 h2 h3 hdd
    have hq' := (hin h).symm.trans hq0
    obtain ⟨hv, rfl⟩ := pureV_ok hq'
    refine ⟨rfl, fun g => ?_⟩
    refine (hin g).trans ?_
    rw [convR_pu (fun e he => hds e (by rw [undR_ok h2] at he; cases he; rfl)) g h', hv]; rfl
  case makeInterface t x =>
    refine Pu.bind fun v => Pu.bind fun d => ?_
    split
    · exact Pu.err
    · exact Pu.ok
  case makeFunc fn first cap =>
    cases fn
    · exact Pu.bind fun a => Pu.bind fun b => Pu.ok
    all_goals exact Pu.err
  case call x =>
    cases hc : x.callee with
    | builtin b =>
      rw [hc] at hk
      simp only at hk ⊢
      refine Pu.bind fun args => ?_
      refine builtin_pu ?_
      cases b <;> simp at hk ⊢
    | _ => rw [hc] at hk; cases hk
  all_goals first | exact Pu.pure | exact Pu.bind fun v => Pu.pure | exact Pu.bind fun v => Pu.bind fun u => Pu.pure


theorem opR_read {o : Oper} (hh : how loc al o = .plain) (hk : kindOf c.P loc al o = .read) : Rd fun h => opR c bad env h o := by
  obtain ⟨dst, op, type, pos, after, guard⟩ := o
  unfold kindOf at hk
  rw [hh] at hk
  simp only at hk
  cases op <;> simp only [reduceCtorEq] at hk <;> simp only [opR]
  case load t x => exact Rd.bind fun p => Rd.pure
  case lookup t x k ok => exact Rd.bind fun p => Rd.bind fun q => Rd.pure
  case slice t x lo hi mx => exact Rd.bind fun p => Rd.bind fun q => Rd.bind fun q => Rd.bind fun q => Rd.pure
  case binOp op xt x y t =>
    refine Rd.bind fun a => Rd.bind fun b => ?_
    split
    · exact Rd.pure
    · exact Rd.err
  case convert s d x =>
    intro h v h' hq
    have hq0 := hq
    obtain ⟨a, h1, hq⟩ := Res.bind_ok hq
    obtain ⟨ds, h2, hq⟩ := Res.bind_ok hq
    obtain ⟨dd, h3, hq⟩ := Res.bind_ok hq
    rw [undR_ok h2, undR_ok h3] at hk
    have hdd : ∀ e, dd ≠ .slice e := by
      intro e he; subst he
      cases ds <;> simp at hk
    have hin := opR_conv (c := c) (bad := bad) (env := env) (o := ⟨dst, .convert s d x, type, pos, after, guard⟩) rfl h1 h2 h3 hdd
    exact (pureV_ok ((hin h).symm.trans hq0)).2
  case call x =>
    cases hc : x.callee with
    | builtin b =>
      rw [hc] at hk
      simp only at hk ⊢
      refine Rd.bind fun args => ?_
      cases b <;> simp at hk
      intro h v h' hq
      unfold builtinR at hq
      split at hq
      · obtain ⟨_, _, hq⟩ := Res.bind_ok hq; cases hq; rfl
      all_goals first | (simp_all; done) | (cases hq; done) | (cases hq; rfl)
    | _ => rw [hc] at hk; cases hk

theorem opR_alloc {o : Oper} (hh : how loc al o = .plain) (hk : kindOf c.P loc al o = .alloc) : Al fun h => opR c bad env h o := by
  obtain ⟨dst, op, type, pos, after, guard⟩ := o
  unfold kindOf at hk
  rw [hh] at hk
  simp only at hk
  cases op <;> simp only [reduceCtorEq] at hk <;> simp only [opR]
  case alloc t => exact Al.bind fun z => Al.bind fun cs => Al.push (v := fun n => .ptr n 0)
  case box t x => exact Al.bind fun z => Al.bind fun cs => Al.push (v := fun n => .ptr n 0)
  case buildSlice t n ps =>
    refine Al.bind fun l => ?_
    unfold buildSliceR
    exact Al.bind fun e => Al.bind fun size => Al.ite Al.err (Al.ite Al.err (Al.bind fun z => Al.ite (Al.bind fun cs => Al.push (v := fun m => .sl m 0 n)) Al.err))
  case makeMap t r =>
    cases r with
    | none => exact Al.push (v := fun n => .map n)
    | some _ => exact Al.err
  case makeSlice t l m =>
    refine Al.bind fun a => Al.bind fun b => ?_
    unfold makeSliceR
    cases a <;> first | exact Al.err | skip
    cases b <;> first | exact Al.err | skip
    rename_i k1 n1 k2 n2
    exact Al.bind fun e => Al.bind fun i => Al.ite (Al.bind fun z => Al.ite (Al.push (v := fun m => .sl m 0 n1.toNat)) Al.err) Al.err
  case convert s d x =>
    refine Al.bind fun v => ?_
    cases h2 : undR c.P s with
    | err n => exact Al.err
    | ok ds =>
      cases h3 : undR c.P d with
      | err n => exact Al.err
      | ok dd =>
        rw [undR_ok h2, undR_ok h3] at hk
        have hss : ds = .string ∧ ∃ e, dd = .slice e := by
          cases ds <;> cases dd <;> simp at hk ⊢
        obtain ⟨rfl, e, rfl⟩ := hss
        have hne : s ≠ d := by
          intro hsd
          have a1 := undR_ok h2; have a2 := undR_ok h3
          rw [hsd, a2] at a1; cases a1
        simp only [Res.ok_bind]
        have hcv : ∀ v : AVal, ∀ g : AHeap, ∃ n, pureV g (convR c g s d v) = .err n := by
          intro v g
          unfold convR
          rw [h2, h3]
          simp only [Res.ok_bind]
          cases v <;> exact ⟨_, rfl⟩
        cases v
        case str b =>
          refine Al.bind fun w => ?_
          split
          · exact Al.push (v := fun n => .sl n 0 b.length)
          · exact Al.err
        case sl o off n =>
          refine Al.bind fun w => ?_
          intro h v h' hq
          split at hq
          · simp only [if_neg hne] at hq
            split at hq <;> cases hq
          · cases hq
        all_goals
          intro h v h' hq
          have hq' := (show pureV h (convR c h s d _) = .ok (v, h') from hq)
          obtain ⟨n, hn⟩ := hcv _ h
          rw [hn] at hq'
          cases hq'
  case call x =>
    cases hc : x.callee with
    | builtin b => rw [hc] at hk; cases b <;> simp at hk
    | _ => rw [hc] at hk; cases hk
  all_goals (split at hk <;> cases hk)


/-! ### steps, by their kind -/
theorem kind_call {P : Program} {o : Oper} {k : Kind} (hk : kindOf P loc al o = k) (h : k ≠ .imp) : callOf o = none := by
  cases hc : callOf o with
  | none => rfl
  | some x =>
    have hop := callOf_op hc
    have hh := call_how (loc := loc) (al := al) hc
    unfold kindOf at hk
    rw [hh, hop] at hk
    simp only at hk
    unfold callOf at hc
    rw [hop] at hc
    simp only at hc
    cases hcc : x.callee with
    | builtin b => rw [hcc] at hc; cases hc
    | value f => rw [hcc] at hk; exact absurd hk.symm h
    | invoke r m => rw [hcc] at hk; exact absurd hk.symm h

theorem stepP_plain {C : CallR} {ops : Array Oper} {o : Oper} (hc : callOf o = none) (hh : how loc al o = .plain) (env : List AVal) (h : AHeap) :
    stepP C c loc al bad ops o env h = (ifG ops env o (.tuple [], h) (opR c bad env h o)).bind fun r => .ok (putD env o r.1, r.2) := by
  unfold stepP step1 stepK
  rw [hc, hh]
  simp [ansR, rs0, Res.bind_assoc]

theorem stepP_pure {C : CallR} {ops : Array Oper} {o : Oper} {env env' : List AVal} {h h' : AHeap} (hk : kindOf c.P loc al o = .pure) (hq : stepP C c loc al bad ops o env h = .ok (env', h')) :
    h' = h ∧ ∀ g, stepP C c loc al bad ops o env g = .ok (env', g) := by
  have hc := kind_call hk (by simp)
  by_cases hh : how loc al o = .plain
  · rw [stepP_plain hc hh] at hq
    obtain ⟨r, h1, hq⟩ := Res.bind_ok hq
    cases hq
    have hp := opR_pure (c := c) (bad := bad) (env := env) hh hk
    have key : r.2 = h ∧ ∀ g, ifG ops env o (.tuple [], g) (opR c bad env g o) = .ok (r.1, g) := by
      unfold ifG at h1 ⊢
      cases hg : o.guard with
      | none =>
        rw [hg] at h1
        obtain ⟨h2, h3⟩ := hp h r.1 r.2 h1
        exact ⟨h2, h3⟩
      | some x =>
        rw [hg] at h1
        simp only at h1 ⊢
        obtain ⟨b, h0, h1⟩ := Res.bind_ok h1
        cases b with
        | true =>
          obtain ⟨h2, h3⟩ := hp h r.1 r.2 h1
          exact ⟨h2, fun g => by rw [h0]; exact h3 g⟩
        | false => cases h1; exact ⟨rfl, fun g => by rw [h0]; rfl⟩
    refine ⟨key.1, fun g => ?_⟩
    rw [stepP_plain hc hh, key.2 g]; rfl
  · unfold stepP step1 stepK at hq ⊢
    rw [hc] at hq
    simp only [hc] at hq ⊢
    simp only [rs0, ansR] at hq ⊢
    cases hw : how loc al o with
    | plain => exact absurd hw hh
    | alias_ t sl =>
      rw [hw] at hq
      simp only at hq ⊢
      obtain ⟨s, h1, h2⟩ := Res.bind_ok hq
      cases h2
      obtain ⟨r, h3, h4⟩ := Res.bind_ok h1
      cases h4
      exact ⟨rfl, fun g => by rw [h3]; rfl⟩
    | load_ t sl =>
      rw [hw] at hq
      simp only at hq ⊢
      obtain ⟨s, h1, h2⟩ := Res.bind_ok hq
      cases h2
      obtain ⟨r, h3, h4⟩ := Res.bind_ok h1
      cases h4
      exact ⟨rfl, fun g => by rw [h3]; rfl⟩
    | make d =>
      rw [hw] at hq
      cases hg : o.guard with
      | some g => rw [hg] at hq; cases hq
      | none =>
        rw [hg] at hq
        simp only at hq ⊢
        obtain ⟨s, h1, h2⟩ := Res.bind_ok hq
        cases h2
        obtain ⟨r, h3, h4⟩ := Res.bind_ok h1
        cases h4
        exact ⟨rfl, fun g => by rw [h3]; rfl⟩
    | store_ t sl =>
      rw [hw] at hq
      cases hg : o.guard with
      | some g => rw [hg] at hq; cases hq
      | none =>
        cases hd : o.dst with
        | some d => rw [hg, hd] at hq; cases hq
        | none =>
          rw [hg, hd] at hq
          simp only at hq ⊢
          obtain ⟨s, h1, h2⟩ := Res.bind_ok hq
          cases h2
          obtain ⟨r, h3, h4⟩ := Res.bind_ok h1
          cases h4
          exact ⟨rfl, fun g => by rw [h3]; rfl⟩

theorem kind_plain {P : Program} {o : Oper} {k : Kind} (hk : kindOf P loc al o = k) (h : k ≠ .pure) : how loc al o = .plain := by
  unfold kindOf at hk
  split at hk
  · rename_i hh; exact hh
  · exact absurd hk.symm h

theorem stepP_read {C : CallR} {ops : Array Oper} {o : Oper} {env : List AVal} {h : AHeap} {v : AVal} (hk : kindOf c.P loc al o = .read) (hq : readAt c bad ops env o h = .ok v) :
    stepP C c loc al bad ops o env h = .ok (putD env o v, h) := by
  have hc := kind_call hk (by simp)
  have hh := kind_plain hk (by simp)
  rw [stepP_plain hc hh]
  have hr := opR_read (c := c) (bad := bad) (env := env) hh hk
  unfold readAt at hq
  unfold ifG at hq ⊢
  cases hg : o.guard with
  | none =>
    rw [hg] at hq
    simp only at hq ⊢
    obtain ⟨r, h1, h2⟩ := Res.bind_ok hq
    cases h2
    rw [h1]
    have := hr h r.1 r.2 h1
    simp only [Res.ok_bind]; rw [this]
  | some x =>
    rw [hg] at hq
    simp only at hq ⊢
    obtain ⟨b, h0, hq⟩ := Res.bind_ok hq
    rw [h0]
    cases b with
    | true =>
      simp only at hq
      obtain ⟨r, h1, h2⟩ := Res.bind_ok hq
      cases h2
      have := hr h r.1 r.2 h1
      simp only [Res.ok_bind, h1]; rw [this]
    | false => cases hq; rfl

theorem stepP_alloc {C : CallR} {ops : Array Oper} {o : Oper} {env env' : List AVal} {h h' : AHeap} (hk : kindOf c.P loc al o = .alloc) (hg : o.guard = none) (hq : stepP C c loc al bad ops o env h = .ok (env', h')) :
    ∃ x, h' = h.push x ∧ ∀ g : AHeap, g.next = h.next → stepP C c loc al bad ops o env g = .ok (env', g.push x) := by
  have hc := kind_call hk (by simp)
  have hh := kind_plain hk (by simp)
  rw [stepP_plain hc hh] at hq
  obtain ⟨r, h1, hq⟩ := Res.bind_ok hq
  cases hq
  unfold ifG at h1
  rw [hg] at h1
  obtain ⟨x, h2, h3⟩ := opR_alloc (c := c) (bad := bad) (env := env) hh hk h r.1 r.2 h1
  refine ⟨x, h2, fun g hn => ?_⟩
  rw [stepP_plain hc hh]
  unfold ifG
  rw [hg]
  simp only
  have h4 : opR c bad env g o = .ok (r.1, g.push x) := h3 g hn
  rw [h4]; rfl

end
end Go.Proofs.Ytbnlhhfobgjeaaa
