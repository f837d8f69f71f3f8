/-
  What an operation's outcome hangs on.
-/
import Derived.Test.YtbnlhhfobgjeaaaZzStep
set_option linter.all false
namespace Go.Proofs.Ytbnlhhfobgjeaaa
open Go Go.RowKit

section
variable {c : Cfg} {bad : List Nat} {env E : List AVal}

theorem opnds_congr : ∀ (l : List Operand), (∀ x ∈ l, opnd bad E x = opnd bad env x) → opnds bad E l = opnds bad env l
  | [], _ => rfl
  | x :: l, h => by
    unfold opnds
    rw [h x (by simp), opnds_congr l fun y hy => h y (by simp [hy])]

theorem opndParts_congr : ∀ (l : List (Nat × Operand)), (∀ x ∈ l, opnd bad E x.2 = opnd bad env x.2) → opndParts bad E l = opndParts bad env l
  | [], _ => rfl
  | x :: l, h => by
    unfold opndParts
    rw [h x (by simp), opndParts_congr l fun y hy => h y (by simp [hy])]

theorem optR_congr {x : Option Operand} (h : ∀ y, x = some y → opnd bad E y = opnd bad env y) : optR (opnd bad E) x = optR (opnd bad env) x := by
  cases x with
  | none => rfl
  | some y => simp only [optR]; rw [h y rfl]

theorem opR_congr {hp : AHeap} {o : Oper} (h : ∀ x ∈ o.op.operands, opnd bad E x = opnd bad env x) : opR c bad E hp o = opR c bad env hp o := by
  obtain ⟨dst, op, type, pos, after, guard⟩ := o
  cases op <;> simp only [Op.operands] at h <;> simp only [opR]
  case build t ps => rw [opndParts_congr ps.toList fun x hx => h x.2 (by simp; exact ⟨x.1, by simpa using hx⟩)]
  case buildSlice t n ps => rw [opndParts_congr ps.toList fun x hx => h x.2 (by simp; exact ⟨x.1, by simpa using hx⟩)]
  case makeFunc fn first cap =>
    cases fn <;> simp only
    rw [opnds_congr first.toList fun x hx => h x (by simp; left; simpa using hx), opnds_congr cap.toList fun x hx => h x (by simp; right; simpa using hx)]
  case call x =>
    cases hc : x.callee <;> simp only
    rw [opnds_congr x.args.toList fun y hy => h y (by simp [Call.operands, hc]; simpa using hy)]
  case slice t x lo hi mx =>
    rw [h x (by simp), optR_congr (x := lo) fun y hy => h y (by simp [hy]), optR_congr (x := hi) fun y hy => h y (by simp [hy]), optR_congr (x := mx) fun y hy => h y (by simp [hy])]
  case pick x a b => rw [h x (by simp), h a (by simp), h b (by simp)]
  all_goals first | rfl | (simp at h; simp only [h]; done) | (simp at h; simp only [h.1, h.2]; done) | (simp at h; simp only [h.1, h.2.1, h.2.2]; done)


theorem calleeR_congr {x : Call} (h : ∀ y ∈ x.operands, opnd bad E y = opnd bad env y) : calleeR c bad E x = calleeR c bad env x := by
  unfold calleeR
  have ha : opnds bad E x.args.toList = opnds bad env x.args.toList := opnds_congr _ fun y hy => h y (by
    cases hc : x.callee <;> simp [Call.operands, hc] <;> simp at hy <;> simp [hy])
  rw [ha]
  cases hc : x.callee with
  | value f => simp only; rw [h f (by simp [Call.operands, hc])]
  | invoke r m => simp only; rw [h r (by simp [Call.operands, hc])]
  | builtin b => rfl

theorem nth_clearAll' : ∀ (ns : List Nat) (l : List AVal) (m : Nat), m ∉ ns → nth (clearAll ns l) m = nth l m
  | [], l, m, _ => rfl
  | n :: ns, l, m, h => by
    simp only [clearAll]
    rw [nth_clearAll' ns _ m (by simp at h; exact h.2), nth_setN]
    split
    · rename_i hh; simp at h; exact absurd hh.1.symm h.1
    · rfl

theorem nth_clearAll_in (ns : List Nat) (l : List AVal) (m : Nat) (h : m ∈ ns) : nth (clearAll ns l) m = .dead := by
  rcases nth_clearAll ns l m with hh | ⟨_, hh⟩
  · exact hh
  · exact absurd h hh

/-! ### a step, without its book-keeping -/
def stepP (C : CallR) (c : Cfg) (loc : List Nat) (al : List (Nat × Nat)) (bad : List Nat) (ops : Array Oper) (o : Oper) (env : List AVal) (h : AHeap) : Res (List AVal × AHeap) :=
  (step1 C c loc al bad ops o (rs0 env h)).bind fun s => .ok (s.env, s.h)

theorem step1_P (C : CallR) (c : Cfg) (loc : List Nat) (al : List (Nat × Nat)) (bad : List Nat) (ops : Array Oper) (o : Oper) (s : RS) :
    step1 C c loc al bad ops o s = (stepP C c loc al bad ops o s.env s.h).bind fun p => .ok { s with env := p.1, h := p.2 } := by
  unfold stepP step1 stepK
  simp only [rs0]
  split
  · split
    · simp only [ansR, Res.bind_assoc, Res.ok_bind]
    · simp only [ansR, Res.bind_assoc]
      congr 1; funext b
      congr 1; funext fa
      cases b <;> simp [Res.bind_assoc]
  · split
    · simp only [ansR, Res.bind_assoc, Res.ok_bind]
    · simp only [ansR, Res.bind_assoc, Res.ok_bind]
    · split <;> simp only [ansR, Res.bind_assoc, Res.ok_bind, Res.err_bind]
    · simp only [ansR, Res.bind_assoc, Res.ok_bind]
    · split <;> simp only [ansR, Res.bind_assoc, Res.ok_bind, Res.err_bind]

/-- two lists of slots, alike but for some -/
def Like (W : List Nat) (E E' env' : List AVal) : Prop := E'.length = E.length ∧ ∀ t, nth E' t = if t ∈ W then nth env' t else nth E t

theorem nth_out {l : List AVal} {t : Nat} (h : ¬ t < l.length) : nth l t = .dead := by
  rw [nth_eq]; simp [Nat.not_lt.1 h]

theorem putD_like {o : Oper} {loc : List Nat} {al : List (Nat × Nat)} {v : AVal} (hl : E.length = env.length) (hw : writesOf loc al o = o.dst.toList) : Like (writesOf loc al o) E (putD E o v) (putD env o v) := by
  unfold Like putD
  rw [hw]
  cases o.dst with
  | none => exact ⟨rfl, fun t => by simp⟩
  | some d =>
    refine ⟨length_setN .., fun t => ?_⟩
    simp only [Option.toList_some, List.mem_singleton]
    rw [nth_setN, nth_setN]
    by_cases ht : t = d
    · subst ht
      by_cases hlt : t < env.length
      · simp [hl, hlt]
      · simp [hl, hlt, nth_out hlt]
        exact nth_out (by omega)
    · have : ¬ d = t := fun h => ht h.symm
      simp [ht, this]

theorem writes_plain {o : Oper} {loc : List Nat} {al : List (Nat × Nat)} (h1 : ∀ d, how loc al o ≠ .make d) (h2 : ∀ t s, how loc al o ≠ .store_ t s) : writesOf loc al o = o.dst.toList := by
  unfold writesOf
  split
  · rename_i d hh; exact absurd hh (h1 d)
  · rename_i t s hh; exact absurd hh (h2 t s)
  · simp

theorem wantedR_congr {ops : Array Oper} {o : Oper} {loc : List Nat} {al : List (Nat × Nat)} (hn : ∀ t ∈ namesOf loc al ops o, nth E t = nth env t) : wantedR ops E o = wantedR ops env o := by
  unfold wantedR
  cases hg : o.guard with
  | none => rfl
  | some g =>
    obtain ⟨j, want⟩ := g
    simp only
    cases hd : (ops[j]?).bind (·.dst) with
    | none => rfl
    | some d =>
      simp only
      rw [hn d (by unfold namesOf Oper.looksAt; simp [hg, hd])]

theorem ifG_congr {α : Type} {ops : Array Oper} {o : Oper} {other : α} {r r' : Res α} (hw : wantedR ops E o = wantedR ops env o) (hr : r = r') : ifG ops E o other r = ifG ops env o other r' := by
  unfold ifG; rw [hw, hr]

theorem operand_names {ops : Array Oper} {o : Oper} {loc : List Nat} {al : List (Nat × Nat)} (hn : ∀ t ∈ namesOf loc al ops o, nth E t = nth env t) : ∀ x ∈ o.op.operands, opnd bad E x = opnd bad env x := by
  intro x hx
  cases x with
  | tmp t =>
    simp only [opnd]
    rw [hn t (by
      unfold namesOf Oper.looksAt
      refine List.mem_append_left _ (List.mem_append_left _ (List.mem_filterMap.2 ⟨.tmp t, by simpa using hx, rfl⟩)))]
  | _ => rfl


theorem callOf_op {o : Oper} {x : Call} (h : callOf o = some x) : o.op = .call x := by
  unfold callOf at h
  split at h
  · rename_i y hy
    split at h
    · cases h
    · cases h; exact hy
  · cases h

theorem call_how {o : Oper} {x : Call} {loc : List Nat} {al : List (Nat × Nat)} (h : callOf o = some x) : how loc al o = .plain := by
  have := callOf_op h
  unfold how; rw [this]

set_option maxHeartbeats 1000000 in
theorem stepP_congr {C : CallR} {loc : List Nat} {al : List (Nat × Nat)} {ops : Array Oper} {o : Oper} {h h' : AHeap} {env' : List AVal} (hq : stepP C c loc al bad ops o env h = .ok (env', h'))
    (hn : ∀ t ∈ namesOf loc al ops o, nth E t = nth env t) (hl : E.length = env.length) : ∃ E', stepP C c loc al bad ops o E h = .ok (E', h') ∧ Like (writesOf loc al o) E E' env' := by
  have hnames := operand_names (bad := bad) hn
  have hw := wantedR_congr hn
  unfold stepP step1 stepK at hq ⊢
  simp only [rs0] at hq ⊢
  cases hc : callOf o with
  | some x =>
    have hop := callOf_op hc
    have hcal : calleeR c bad E x = calleeR c bad env x := calleeR_congr fun y hy => hnames y (by rw [hop]; exact hy)
    have hwr : writesOf loc al o = o.dst.toList := writes_plain (fun d => by rw [call_how hc]; simp) (fun t s => by rw [call_how hc]; simp)
    rw [hc] at hq
    simp only at hq ⊢
    cases hg : o.guard with
    | none =>
      rw [hg] at hq
      simp only [ansR] at hq ⊢
      obtain ⟨s, hq1, hs⟩ := Res.bind_ok hq
      clear hq
      have hq := hq1
      clear hq1
      cases hs
      obtain ⟨fa, h1, hq⟩ := Res.bind_ok hq
      obtain ⟨r, h2, hq⟩ := Res.bind_ok hq
      cases hq
      refine ⟨putD E o r.1, ?_, putD_like hl hwr⟩
      rw [hcal, h1]; simp [h2]
    | some g =>
      rw [hg] at hq
      simp only [ansR] at hq ⊢
      obtain ⟨s, hq1, hs⟩ := Res.bind_ok hq
      clear hq
      have hq := hq1
      clear hq1
      cases hs
      obtain ⟨b, h0, hq⟩ := Res.bind_ok hq
      obtain ⟨fa, h1, hq⟩ := Res.bind_ok hq
      rw [hw, h0]
      cases b with
      | true =>
        simp only at h1 hq
        obtain ⟨r, h2, hq⟩ := Res.bind_ok hq
        cases hq
        refine ⟨putD E o r.1, ?_, putD_like hl hwr⟩
        simp [hcal, h1, h2]
      | false =>
        simp only at hq
        cases hq
        exact ⟨putD E o (.tuple []), by simp, putD_like hl hwr⟩
  | none =>
    rw [hc] at hq
    simp only at hq ⊢
    cases hh : how loc al o with
    | plain =>
      have hwr : writesOf loc al o = o.dst.toList := writes_plain (fun d => by rw [hh]; simp) (fun t s => by rw [hh]; simp)
      rw [hh] at hq
      simp only [ansR] at hq ⊢
      obtain ⟨s, hq1, hs⟩ := Res.bind_ok hq
      clear hq
      have hq := hq1
      clear hq1
      cases hs
      obtain ⟨r, h1, hq⟩ := Res.bind_ok hq
      cases hq
      rw [ifG_congr hw (opR_congr hnames), h1]
      exact ⟨putD E o r.1, rfl, putD_like hl hwr⟩
    | alias_ t sl =>
      have hwr : writesOf loc al o = o.dst.toList := writes_plain (fun d => by rw [hh]; simp) (fun t s => by rw [hh]; simp)
      rw [hh] at hq
      simp only [ansR] at hq ⊢
      obtain ⟨s, hq1, hs⟩ := Res.bind_ok hq
      clear hq
      have hq := hq1
      clear hq1
      cases hs
      obtain ⟨r, h1, hq⟩ := Res.bind_ok hq
      cases hq
      have hal : aliasR c.P bad E t sl o = aliasR c.P bad env t sl o := by
        obtain ⟨x, hs, hop⟩ := how_inv hh
        obtain ⟨rfl, hts⟩ := slotOf_ok hs
        have ht : nth E t = nth env t := hn t (by
          unfold namesOf Oper.looksAt
          refine List.mem_append_left _ (List.mem_append_left _ (List.mem_filterMap.2 ⟨.tmp t, ?_, rfl⟩))
          rcases hop with hop | hop | ⟨T, f, hop⟩ | ⟨T, i, hop⟩ <;> rw [hop] <;> simp [Op.operands])
        have hb : baseOff E t sl = baseOff env t sl := by
          unfold baseOff
          by_cases hts : t = sl
          · subst hts; rw [ht]
          · rw [ht]; simp [hts]
        have hst : stepOff c.P bad E o = stepOff c.P bad env o := by
          unfold stepOff
          rcases hop with hop | hop | ⟨T, f, hop⟩ | ⟨T, i, hop⟩ <;> rw [hop] <;> simp only
          rw [hnames i (by rw [hop]; simp [Op.operands])]
        unfold aliasR
        rw [hb, hst]
      rw [ifG_congr hw hal, h1]
      exact ⟨putD E o (.loc r.1 r.2), rfl, putD_like hl hwr⟩
    | make d =>
      rw [hh] at hq
      cases hg : o.guard with
      | some g => rw [hg] at hq; cases hq
      | none =>
        rw [hg] at hq
        simp only [ansR] at hq ⊢
        obtain ⟨s, hq1, hs⟩ := Res.bind_ok hq
        clear hq
        have hq := hq1
        clear hq1
        cases hs
        obtain ⟨vs, h1, hq⟩ := Res.bind_ok hq
        cases hq
        obtain ⟨hd, hld, hop⟩ := how_inv hh
        have hmk : makeCells c.P bad E o = makeCells c.P bad env o := by
          unfold makeCells
          rcases hop with ⟨T, hop⟩ | ⟨T, x, hop⟩ <;> rw [hop] <;> simp only
          rw [hnames x (by rw [hop]; simp [Op.operands])]
        rw [hmk, h1]
        refine ⟨_, rfl, by simp [length_setN, length_clearAll], fun t => ?_⟩
        unfold writesOf
        rw [hh, hd]
        rw [nth_setN, nth_setN]
        simp only [length_clearAll, hl]
        by_cases htd : d = t ∧ d < env.length
        · rw [if_pos htd, if_pos htd]; simp [htd.1]
        · rw [if_neg htd, if_neg htd]
          by_cases hta : t ∈ aliasTo al d
          · rw [nth_clearAll_in _ _ _ hta, nth_clearAll_in _ _ _ hta]; simp [hta]
          · rw [nth_clearAll' _ _ _ hta, nth_clearAll' _ _ _ hta]
            by_cases htd' : t = d
            · subst htd'
              have : ¬ t < env.length := fun hlt => htd ⟨rfl, hlt⟩
              rw [nth_out this, nth_out (by omega)]; simp
            · simp [hta, htd']
    | load_ t sl =>
      have hwr : writesOf loc al o = o.dst.toList := writes_plain (fun d => by rw [hh]; simp) (fun t s => by rw [hh]; simp)
      rw [hh] at hq
      simp only [ansR] at hq ⊢
      obtain ⟨s, hq1, hs⟩ := Res.bind_ok hq
      clear hq
      have hq := hq1
      clear hq1
      cases hs
      obtain ⟨r, h1, hq⟩ := Res.bind_ok hq
      cases hq
      have hld : loadCell c.P E t sl o = loadCell c.P env t sl o := by
        obtain ⟨T, x, hs, hop⟩ := how_inv hh
        obtain ⟨rfl, hts⟩ := slotOf_ok hs
        have ht : nth E t = nth env t := hn t (by
          unfold namesOf Oper.looksAt
          refine List.mem_append_left _ (List.mem_append_left _ (List.mem_filterMap.2 ⟨.tmp t, ?_, rfl⟩))
          rw [hop]; simp [Op.operands])
        have hsl : nth E sl = nth env sl := hn sl (by unfold namesOf; rw [hh]; simp)
        unfold loadCell cellAt baseOff
        rw [ht, hsl]
      rw [ifG_congr hw hld, h1]
      exact ⟨putD E o r, rfl, putD_like hl hwr⟩
    | store_ t sl =>
      rw [hh] at hq
      cases hg : o.guard with
      | some g => rw [hg] at hq; cases hq
      | none =>
        cases hd : o.dst with
        | some d => rw [hg, hd] at hq; cases hq
        | none =>
          rw [hg, hd] at hq
          simp only [ansR] at hq ⊢
          obtain ⟨s, hq1, hs⟩ := Res.bind_ok hq
          clear hq
          have hq := hq1
          clear hq1
          cases hs
          obtain ⟨vs, h1, hq⟩ := Res.bind_ok hq
          cases hq
          obtain ⟨T, x, y, hs, hop⟩ := how_inv hh
          obtain ⟨rfl, hts⟩ := slotOf_ok hs
          have ht : nth E t = nth env t := hn t (by
            unfold namesOf Oper.looksAt
            refine List.mem_append_left _ (List.mem_append_left _ (List.mem_filterMap.2 ⟨.tmp t, ?_, rfl⟩))
            rw [hop]; simp [Op.operands])
          have hsl : nth E sl = nth env sl := hn sl (by unfold namesOf; rw [hh]; simp)
          have hst : storeCell c.P bad E t sl o = storeCell c.P bad env t sl o := by
            unfold storeCell
            rw [hop]
            simp only
            rw [hnames y (by rw [hop]; simp [Op.operands])]
            unfold cellAt baseOff
            rw [ht, hsl]
          rw [hst, h1]
          refine ⟨_, rfl, by simp [length_setN], fun u => ?_⟩
          unfold writesOf
          rw [hh, hd]
          rw [nth_setN, nth_setN, hl]
          by_cases hu : u = sl
          · subst hu
            by_cases hlt : u < env.length
            · simp [hlt]
            · simp [hlt, nth_out hlt]; exact nth_out (by omega)
          · have : ¬ sl = u := fun h => hu h.symm
            simp [hu, this]

/-- other slots stay -/
theorem stepP_frame {C : CallR} {loc : List Nat} {al : List (Nat × Nat)} {ops : Array Oper} {o : Oper} {h h' : AHeap} {env' : List AVal} (hq : stepP C c loc al bad ops o env h = .ok (env', h')) :
    Like (writesOf loc al o) env env' env' := by
  obtain ⟨E', h1, h2⟩ := stepP_congr hq (fun _ _ => rfl) rfl
  rw [hq] at h1; cases h1
  exact h2

end
end Go.Proofs.Ytbnlhhfobgjeaaa
