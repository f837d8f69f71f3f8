/-
  A part of the proof of PlanOps, over the seat YtlhlbamcgopiiaaGreatDoor: for every input the law returns true, and the input reads as it did.
-/
import Derived.Test.YtlhlbamcgopiiaaGreatDoorGk
set_option linter.all false
set_option linter.all false
set_option maxRecDepth 100000
set_option maxHeartbeats 4000000
namespace Go.Proofs.YtlhlbamcgopiiaaGreatDoor
open Go Go.RowKit Go.Proofs
variable {P Pn:IdT→Prop} {N K T:Nat} {D D' D0:CV}
theorem movStep_parts (D:CV) (k e:IdT) (key:KeyT):(∀e',lookI (movStep D k e key).lives e'=lookI D.lives e')∧(∀e',spOf (movStep D k e key) e'=if e'=e then spOf D e++[(key,k)]else spOf D e')∧(movStep D k e key).elems=D.elems:=by
 obtain⟨t1,t2,t3,t4,t5⟩:=touchD_sp D k e
 have hs3:∀e',spOf (touchD D k e) e'=spOf D e':=fun e'=>by unfold spOf;rw [t1]
 refine⟨fun e'=>?_,fun e'=>?_,t3⟩
 · show lookI (touchD D k e).lives e'=_
   rw [touchD_lives]
 · show spOf (addD (touchD D k e) e (key,k)) e'=_
   rw [spOf_add,hs3,hs3]
theorem movStep_er (D:CV) (k e:IdT) (key:KeyT) (hn:(D.A.map AtV.id).Nodup):(movStep D k e key).A.map er=D.A.map er:=by
 have hA:(addD (touchD D k e) e (key,k)).A=D.A:=(touchD_sp D k e).2.2.2.1
 show(renewD (addD (touchD D k e) e (key,k)) e).A.map er=_
 rw [renewD_er _ _ (by rw [hA];exact hn),hA]
theorem movStep_deed {D:CV} {k e:IdT} {key:KeyT} (h:∃d,lookI D.deeds k=some d):∃d,lookI (movStep D k e key).deeds k=some d:=by
 obtain⟨d,hd⟩:=h
 obtain⟨d',e1,_⟩:=touchD_deed (e:=e) hd
 exact⟨d',e1⟩
theorem span_run {t:TxV} {s:Sn} {n n0 p0:Nat} {S:List IdT} {D1:CV} (hr:t.r=1) (hn0:n=n0+S.length) (h1:1≤n0) (hB:n0+S.length+s.2≤2 ^ 28) (hT:T+s.2 < 2 ^ 28) (hnd:(S++idsS s).Nodup)
 (hk:∀e∈idsS s,lookI D0.lives e≠none∧(∀y∈spOf D0 e,y.1.2.2 < n0∧y.1.1≤t.clock∧y.1.2.1=1))
 (I:PF (n+s.2) t.clock T D1) (R:MovR D0 D1 t.id t.clock n0 p0 (S++idsS s) S):∀i,i≤s.2→PF (n+s.2) t.clock (T+i) (movN D1 t s n i)∧MovR D0 (movN D1 t s n i) t.id t.clock n0 p0 (S++idsS s) (S++(idsS s).take i)∧∀j,j < i→StepM (movN D1 t s n j) t (plusI s.1 j) (n+j):=by
 intro i
 induction i with
 | zero=>intro _;exact⟨I,by rw [show S++(idsS s).take 0=S by simp];exact R,fun j hj=>by omega⟩
 | succ i ih=>
  intro hi
  obtain⟨I1,R1,M1⟩:=ih (by omega)
  have hg:(idsS s)[i]?=some (plusI s.1 i):=by unfold idsS;rw [List.getElem?_map,List.getElem?_range (by omega)];rfl
  have hgm:plusI s.1 i∈idsS s:=List.mem_of_getElem? hg
  obtain⟨e,he⟩:∃e,e=plusI s.1 i:=⟨_,rfl⟩
  rw [←he]at hg hgm
  have htk:(idsS s).take (i+1)=(idsS s).take i++[e]:=by
   obtain⟨hl,e2⟩:=List.getElem?_eq_some_iff.1 hg
   rw [List.take_succ_eq_append_getElem hl,e2]
  have hnotin:e ∉ S++(idsS s).take i:=by
   intro hm
   have h5:(S++(idsS s).take (i+1)).Nodup:=hnd.sublist (List.Sublist.append_left (List.take_sublist _ _) _)
   rw [htk,←List.append_assoc,List.nodup_append]at h5
   exact h5.2.2 e hm e (by simp) rfl
  obtain⟨k1,k2⟩:=hk e hgm
  have hsp:=R1.sp0 e hnotin
  have hlv:lookI (movN D1 t s n i).lives e≠none:=by rw [R1.lv];exact k1
  obtain⟨l,hl⟩:∃l,lookI (movN D1 t s n i).lives e=some l:=by
   cases h6:lookI (movN D1 t s n i).lives e with
   | none=>exact(hlv h6).elim
   | some l=>exact⟨l,rfl⟩
  obtain⟨d,hd⟩:=R1.dd
  have hget:(S++idsS s)[S.length+i]?=some e:=by rw [List.getElem?_append_right (by omega)];simpa using hg
  obtain⟨a0,ha0,ea⟩:∃a0∈(movN D1 t s n i).A,er a0=⟨t.clock,1,n0+(S.length+i),e.1,e.2,byteA D0.A e,false⟩:=by
   have h7:=List.mem_of_getElem? (newL_get (A:=D0.A) (K:=t.clock) (n:=n0) hget)
   have h8:(⟨t.clock,1,n0+(S.length+i),e.1,e.2,byteA D0.A e,false⟩:AtV)∈(movN D1 t s n i).A.map er:=by
    rw [R1.A]
    exact List.mem_append.2 (.inl (List.mem_append.2 (.inr h7)))
   obtain⟨a0,h9,h10⟩:=List.mem_map.1 h8
   exact⟨a0,h9,h10⟩
  have akey:a0.key=(t.clock,1,n+i):=by
   have:=congrArg AtV.key ea
   rw [show n+i=n0+(S.length+i) by omega];exact this
  have ael:a0.elem=e:=congrArg AtV.elem ea
  have hlt:∀y∈spOf (movN D1 t s n i) e,klt y.1 (t.clock,1,n+i):=by
   intro y hy
   rw [hsp]at hy
   obtain⟨y1,y2,y3⟩:=k2 y hy
   unfold klt
   simp only
   rw [y3]
   rcases Nat.lt_or_ge y.1.1 t.clock with c | c
   · exact .inl c
   · exact .inr ⟨by omega,.inr ⟨rfl,by omega⟩⟩
  have hsl:=I1.sl e
  have hstep:StepM (movN D1 t s n i) t e (n+i):=by
   have hs3:spOf (addD (touchD (movN D1 t s n i) t.id e) e ((t.clock,t.r,n+i),t.id)) e=spOf (movN D1 t s n i) e++[((t.clock,t.r,n+i),t.id)]:=by
    rw [spOf_add,if_pos rfl]
    unfold spOf
    rw [(touchD_sp _ _ _).1]
   refine⟨⟨l,hl⟩,⟨d,hd,by have:=I1.dd _ d hd;omega⟩,fun y hy hk=>?_,by omega,by have:=I1.ns;omega,⟨?_,fun x hx=>?_,fun l2 h2=>?_⟩⟩
   · have:=hlt y hy
     rw [hk,hr]at this
     exact klt_irrefl _ this
   · rw [hs3];simp;omega
   · rw [hs3]at hx
     rcases List.mem_append.1 hx with h | h
     · have:=(I1.spn h).1;omega
     · simp at h;subst h;simp only [];omega
   · have h2:lookI (touchD (movN D1 t s n i) t.id e).lives e=some l2:=h2
     rw [touchD_lives,hl]at h2
     cases h2
     have:=(I1.lv e l hl).2.2;omega
  have eN:movN D1 t s n (i+1)=movStep (movN D1 t s n i) t.id e (t.clock,1,n+i):=by
   have h:movN D1 t s n (i+1)=movStep (movN D1 t s n i) t.id (plusI s.1 i) (t.clock,t.r,n+i):=rfl
   rw [h,←he,hr]
  have I2:=I1.mov (k:=t.id) (e:=e) (key:=(t.clock,1,n+i)) id ha0 akey ael hlt
  obtain⟨q1,q2,q3⟩:=movStep_parts (movN D1 t s n i) t.id e (t.clock,1,n+i)
  refine⟨by rw [eN];exact I2,?_,fun j hj=>?_⟩
  · rw [eN,htk,←List.append_assoc]
    refine⟨by rw [movStep_er _ _ _ _ I1.ci.nd];exact R1.A,fun e'=>(q1 e').trans (R1.lv e'),fun e' hne=>?_,fun j e' hj=>?_,movStep_deed R1.dd,q3.trans R1.el⟩
    · rw [q2,if_neg (fun c=>hne (by simp [c]))]
      exact R1.sp0 e' (fun c=>hne (List.mem_append.2 (.inl c)))
    · rw [q2]
      have hSl:(S++(idsS s).take i).length=S.length+i:=by rw [List.length_append,List.length_take,idsS_len];omega
      by_cases c:j < S.length+i
      · rw [List.getElem?_append_left (by omega)]at hj
        have hne:e'≠e:=fun h=>hnotin (by rw [←h];exact List.mem_of_getElem? hj)
        rw [if_neg hne]
        exact R1.sp1 j e' hj
      · rw [List.getElem?_append_right (by omega),hSl]at hj
        have h0:j - (S.length+i)=0:=by
         have:=(List.getElem?_eq_some_iff.1 hj).1
         simpa using this
        rw [h0]at hj
        simp at hj
        subst hj
        rw [if_pos rfl,hsp]
        have:j=S.length+i:=by omega
        rw [this,show n0+(S.length+i)=n+i by omega]
  · by_cases c:j=i
    · subst c;rw [←he];exact hstep
    · exact M1 j (by omega)
theorem PI.monoK {K':Nat} (h:PI P Pn N K T D) (hk:K≤K'):PI P Pn N K' T D:=
 ⟨h.ci,fun a ha=>by obtain⟨a1,a2,a3,a4⟩:=h.at_ a ha;exact⟨a1,a2,by omega,a4⟩,h.own,h.lv,h.off,h.dd,h.sl,h.inc,h.ns,h.el,h.len⟩
structure MvE (D0:CV) (K n0:Nat) (e:IdT):Prop where
 lv:lookI D0.lives e≠none
 sp:∀y∈spOf D0 e,y.1.2.2 < n0∧y.1.1≤K∧y.1.2.1=1
 e1:e.1=1
 e2:1≤e.2∧e.2 < n0
 own:∃o∈D0.A,o.id=e∧plainB o.b=true
theorem idsOf_cons (s:Sn) (l:List Sn):idsOf (s :: l)=idsS s++idsOf l:=by unfold idsOf;simp
theorem mov_run {t:TxV} {n0 p0:Nat} (hr:t.r=1) (h1:1≤n0) (hp0:p0≤D0.A.length) (hnd0:(D0.A.map AtV.id).Nodup):∀(l:List Sn) (D':CV) (T' K1:Nat) (S:List IdT) (x:IdT),PF (n0+S.length) K1 T' D'→K1≤t.clock→MovR D0 D' t.id t.clock n0 p0 S S→
 posA D'.A x.1 x.2=some (p0+S.length)→x.2 < 2 ^ 32→(∀s∈l,1≤s.2∧s.2≤1024)→(S++idsOf l).Nodup→(∀e∈idsOf l,MvE D0 t.clock n0 e)→n0+S.length+totS l≤65536→T'+totS l < 2 ^ 28→
 MovOk D' t x (n0+S.length) l∧PF (n0+(S++idsOf l).length) t.clock (T'+totS l) (movL D' t x (n0+S.length) l)∧MovR D0 (movL D' t x (n0+S.length) l) t.id t.clock n0 p0 (S++idsOf l) (S++idsOf l)
 | [],D',T',K1,S,x,I,hK,R,_,_,_,_,_,_,_=>⟨trivial,by rw [show idsOf []=[]from rfl,List.append_nil];exact I.monoK hK,by rw [show idsOf []=[]from rfl,List.append_nil];exact R⟩
 | s :: l,D',T',K1,S,x,I,hK,R,hpos,hx,hl,hnd,hE,hB,hT=>by
  obtain⟨s1,s2⟩:=hl s (by simp)
  have htot:totS (s :: l)=s.2+totS l:=by unfold totS;simp
  rw [htot]at hB hT
  rw [idsOf_cons]at hnd hE
  have hEs:∀e∈idsS s,MvE D0 t.clock n0 e:=fun e he=>hE e (List.mem_append.2 (.inl he))
  obtain⟨n,hn⟩:∃n,n=n0+S.length:=⟨_,rfl⟩
  rw [←hn]at I ⊢
  have hown:∀e∈idsS s,byteA D'.A e=byteA D0.A e∧plainB (byteA D'.A e)=true∧∃o∈D'.A,o.id=e∧o.b=byteA D'.A e:=by
   intro e he
   obtain⟨o,ho,o1,o2⟩:=(hEs e he).own
   obtain⟨b,hb,e1⟩:=R.old ho
   have b1:b.id=e:=(congrArg AtV.id e1).trans o1
   have b2:b.b=o.b:=congrArg (·.b) e1
   have h5:=byte_own I.ci.nd hb
   have h6:=byte_own hnd0 ho
   rw [b1]at h5
   rw [o1]at h6
   exact⟨by rw [h5,h6,b2],by rw [h5,b2];exact o2,b,hb,b1,h5.symm⟩
  obtain⟨rr,hrr⟩:∃rr,rr=movRun D'.A t s n:=⟨_,rfl⟩
  have hat:atomsOf rr=newL D0.A t.clock n (idsS s):=by rw [hrr];exact run_new hr (fun e he=>(hown e he).1)
  have hrl:rr.text.length=s.2:=by rw [hrr];exact spanTx_len _ _
  have hput:putG D'.A x rr=D'.A.take (p0+S.length)++(atomsOf rr++D'.A.drop (p0+S.length)):=putG_newest hpos (I.newest hK (by rw [hrr];unfold RunV.key movRun;simp only [hr]))
  have hlast:plusI s.1 (s.2 - 1)∈idsS s:=List.mem_map.2 ⟨s.2 - 1,List.mem_range.2 (by omega),rfl⟩
  have hfirst:plusI s.1 0∈idsS s:=List.mem_map.2 ⟨0,List.mem_range.2 (by omega),rfl⟩
  have hle:=(hEs _ hlast).e2.2
  have hfe:=(hEs _ hfirst).e2.1
  have hf1:=(hEs _ hfirst).e1
  simp only [plusI,Nat.add_zero]at hle hfe hf1
  have hD'len:=I.len
  obtain⟨D1,hD1⟩:∃D1,D1=movPut D' t s x n:=⟨_,rfl⟩
  have hA1:D1.A=D'.A.take (p0+S.length)++(atomsOf rr++D'.A.drop (p0+S.length)):=by rw [hD1,←hput,hrr];rfl
  have hlenX:((D0.A.take p0).map er++newL D0.A t.clock n0 S).length=p0+S.length:=by
   rw [List.length_append,List.length_map,List.length_take,newL_len,Nat.min_eq_left hp0]
  have hA1e:D1.A.map er=(D0.A.take p0).map er++newL D0.A t.clock n0 (S++idsS s)++(D0.A.drop p0).map er:=by
   have e1:(D'.A.take (p0+S.length)).map er=(D0.A.take p0).map er++newL D0.A t.clock n0 S:=by
    rw [List.map_take,R.A,←hlenX,List.take_left]
   have e2:(D'.A.drop (p0+S.length)).map er=(D0.A.drop p0).map er:=by
    rw [List.map_drop,R.A,←hlenX,List.drop_left]
   rw [hA1,List.map_append,List.map_append,e1,e2,hat,newL_er,newL_append,←hn]
   simp only [List.append_assoc]
  have I1:PF (n+s.2) t.clock T' D1:=by
   have:=I.put (x:=x) (r:=rr) (K':=t.clock) hK (by omega) ⟨by rw [hrr];rfl,by rw [hrr];exact hr,by rw [hrr];rfl,by rw [hrr];exact hf1,by rw [hrr];rfl⟩ (fun a ha=>?_)
   · rw [hrl]at this
     rw [hD1,show movPut D' t s x n={ D' with A:=putG D'.A x rr } by rw [hrr];rfl]
     exact this
   · rw [hat]at ha
     obtain⟨i,e,h5,h6⟩:=newL_mem ha
     have hem:=List.mem_of_getElem? h5
     have E:=hEs e hem
     obtain⟨b1,_,o,ho,o1,o2⟩:=hown e hem
     have ael:a.elem=e:=by rw [h6];rfl
     refine⟨by rw [h6];exact E.e2.1,by rw [ael,R.lv];exact E.lv,o,ho,by rw [ael];exact o1,?_⟩
     rw [o2,b1,h6]
  have R1:MovR D0 D1 t.id t.clock n0 p0 (S++idsS s) S:=by
   refine⟨hA1e,fun e=>?_,fun e he=>?_,fun i e he=>?_,?_,?_⟩
   · rw [hD1];exact R.lv e
   · rw [hD1];exact R.sp0 e he
   · rw [hD1];exact R.sp1 i e he
   · rw [hD1];exact R.dd
   · rw [hD1];exact R.el
  have hnd1:(S++idsS s).Nodup:=by
   rw [←List.append_assoc]at hnd
   exact(List.nodup_append.1 hnd).1
  have run:=span_run (S:=S) hr hn h1 (by omega) (by omega) hnd1 (fun e he=>⟨(hEs e he).lv,(hEs e he).sp⟩) I1 R1
  obtain⟨I2,R2,M2⟩:=run s.2 (Nat.le_refl _)
  rw [List.take_of_length_le (by rw [idsS_len];exact Nat.le_refl _)]at R2
  have hS2:movS D' t s x n=movN D1 t s n s.2:=by rw [hD1];rfl
  rw [←hS2]at I2 R2
  have hSl:(S++idsS s).length=S.length+s.2:=by rw [List.length_append,idsS_len]
  have hpos2:posA (movS D' t s x n).A t.r (n+(s.2 - 1))=some (p0+(S++idsS s).length):=by
   have hids:(movS D' t s x n).A.map AtV.id=D1.A.map AtV.id:=er_ids (by rw [R2.A,hA1e])
   rw [posA_ids hids]
   have hg:(idsS s)[s.2 - 1]?=some (plusI s.1 (s.2 - 1)):=by unfold idsS;rw [List.getElem?_map,List.getElem?_range (by omega)];rfl
   have hx2:D1.A[p0+S.length+(s.2 - 1)]?=some ⟨t.clock,1,n+(s.2 - 1),(plusI s.1 (s.2 - 1)).1,(plusI s.1 (s.2 - 1)).2,byteA D0.A (plusI s.1 (s.2 - 1)),false⟩:=by
    have hdl:(D'.A.take (p0+S.length)).length=p0+S.length:=by
     rw [List.length_take]
     have:D'.A.length=(D'.A.map er).length:=by rw [List.length_map]
     rw [R.A,List.length_append,hlenX]at this
     omega
    rw [hA1,List.getElem?_append_right (by omega),hdl,show p0+S.length+(s.2 - 1) - (p0+S.length)=s.2 - 1 by omega,hat,List.getElem?_append_left (by rw [newL_len,idsS_len];omega)]
    exact newL_get hg
   unfold posA
   rw [if_neg (by omega)]
   have:=atIx_at' I1.ci.nd hx2
   simp only at this
   rw [hr,this,Option.map_some,hSl]
   congr 1
   omega
  have hB2:n0+(S++idsS s).length+totS l≤65536:=by rw [hSl];omega
  have e3:n+s.2=n0+(S++idsS s).length:=by rw [hSl];omega
  rw [e3]at I2
  obtain⟨a1,a2,a3⟩:=mov_run hr h1 hp0 hnd0 l (movS D' t s x n) (T'+s.2) t.clock (S++idsS s) (t.r,n+(s.2 - 1)) I2 (Nat.le_refl _) R2 hpos2 (by show n+(s.2 - 1) < _;omega) (fun z hz=>hl z (by simp [hz])) (by rw [List.append_assoc];exact hnd) (fun e he=>hE e (List.mem_append.2 (.inr he))) hB2 (by omega)
  rw [←e3]at a1 a2 a3
  refine⟨⟨⟨hx,?_,?_,⟨_,hpos⟩,?_,?_,?_⟩,a1⟩,?_,?_⟩
  · rw [←hrr]
    have hr1:rr.n=n∧rr.en=s.1.2:=by rw [hrr];exact⟨rfl,rfl⟩
    exact⟨by omega,by omega,by omega,by omega,by omega,by omega⟩
  · unfold plain
    rw [List.all_eq_true]
    intro b hb
    obtain⟨e,he,rfl⟩:=List.mem_map.1 hb
    exact(hown e he).2.1
  · exact hit_new fun a ha=>(I.at_ a ha).2.1
  · omega
  · intro j hj
    have:=M2 j hj
    rw [hD1]at this
    exact this
  · rw [idsOf_cons,htot]
    have e5:S++(idsS s++idsOf l)=S++idsS s++idsOf l:=by rw [List.append_assoc]
    rw [e5,show T'+(s.2+totS l)=T'+s.2+totS l by omega]
    exact a2
  · rw [idsOf_cons]
    have e5:S++(idsS s++idsOf l)=S++idsS s++idsOf l:=by rw [List.append_assoc]
    rw [e5]
    exact a3
end Go.Proofs.YtlhlbamcgopiiaaGreatDoor
set_option linter.all false
set_option maxRecDepth 100000
set_option maxHeartbeats 4000000
namespace Go.Proofs.YtlhlbamcgopiiaaGreatDoor
open Go Go.RowKit Go.Proofs
variable {N K T:Nat} {D D' D0:CV}
theorem newL_b (A:List AtV) (K:Nat):∀(l:List IdT) (n:Nat),(newL A K n l).map (·.b)=l.map (byteA A)
 | [],_=>rfl
 | e :: l,n=>by show _ :: (newL A K (n+1) l).map _=_ :: _;rw [newL_b A K l]
theorem mov_text {k:IdT} {K' p0:Nat} {S:List IdT} (I:PF N K T D0) {N' T':Nat} (I':PF N' K' T' D') (R:MovR D0 D' k K' N p0 S S) (hS:∀e∈S,1≤countD D0 e):
 shownA D'.A=((shL (D0.A.take p0)).filter (fun a=>decide (a.elem ∉ S))).map (·.b)++S.map (byteA D0.A)++((shL (D0.A.drop p0)).filter (fun a=>decide (a.elem ∉ S))).map (·.b):=by
 have e1:shownA D'.A=((D'.A.map er).filter (fun a=>decide (okF D' a))).map (·.b):=by
  rw [←shL_bytes,I'.shL,List.filter_map,List.map_map];rfl
 have last:∀(i:Nat) e,S[i]?=some e→bestD D' e=((K',1,N+i),k):=fun i e h=>best_last I'.off (R.sp1 i e h) (I'.inc e)
 have old:∀a∈D0.A,(okF D' a↔(a.elem ∉ S∧okF D0 a)):=by
  intro a ha
  by_cases c:a.elem∈S
  · obtain⟨i,hi⟩:=List.mem_iff_getElem?.1 c
    refine⟨fun h=>?_,fun h=>(h.1 c).elim⟩
    have h2:=h.2
    rw [last i _ hi]at h2
    have h3:a.n=N+i:=congrArg (fun k:KeyT=>k.2.2) h2
    have:=(I.at_ a ha).2.1
    omega
  · rw [okF_congr (a:=a) (R.lv _) (R.sp0 _ c) (fun k=>by rw [I'.off,I.off])]
    exact⟨fun h=>⟨c,h⟩,fun h=>h.2⟩
 have part:∀B:List AtV,(∀a∈B,a∈D0.A)→(B.map er).filter (fun a=>decide (okF D' a))=((shL B).filter (fun a=>decide (a.elem ∉ S))).map er:=by
  intro B hB
  rw [List.filter_map]
  congr 1
  unfold shL
  rw [List.filter_filter]
  refine List.filter_congr fun a ha=>?_
  show decide (okF D' a)=_
  have h1:=old a (hB a ha)
  have h2:=I.ok (hB a ha)
  have h3:(decide (a.elem ∉ S) && a.shown)=true↔(a.elem ∉ S∧okF D0 a):=by rw [Bool.and_eq_true,decide_eq_true_iff,h2]
  by_cases c:okF D' a
  · rw [decide_eq_true c,h3.2 (h1.1 c)]
  · rw [decide_eq_false c]
    cases hb:(decide (a.elem ∉ S) && a.shown)with
    | false=>rfl
    | true=>exact(c (h1.2 (h3.1 hb))).elim
 have new:(newL D0.A K' N S).filter (fun a=>decide (okF D' a))=newL D0.A K' N S:=by
  rw [List.filter_eq_self]
  intro a ha
  obtain⟨i,e,hi,ea⟩:=newL_mem ha
  refine decide_eq_true ⟨?_,?_⟩
  · have hel:a.elem=e:=by rw [ea];rfl
    rw [hel,countD_congr (R.lv e) (fun k=>by rw [I'.off,I.off])]
    exact hS e (List.mem_of_getElem? hi)
  · have hel:a.elem=e:=by rw [ea];rfl
    rw [hel,last i e hi,ea];rfl
 rw [e1,R.A,List.filter_append,List.filter_append,part _ (fun a ha=>List.mem_of_mem_take ha),part _ (fun a ha=>List.mem_of_mem_drop ha),new,List.map_append,List.map_append,newL_b,List.map_map,List.map_map]
 rfl
theorem PF.elem (I:PF N K T D) {a b:Nat} (e:IdT) (he:e∈elemsP D.A a b):∃x∈D.A,x.elem=e∧x.shown=true∧okF D x:=by
 unfold elemsP at he
 obtain⟨x,hx,rfl⟩:=List.mem_map.1 he
 have hx2:=List.mem_of_mem_drop (List.mem_of_mem_take hx)
 unfold Go.Proofs.YtlhlbamcgopiiaaGreatDoor.shL at hx2
 rw [List.mem_filter]at hx2
 exact⟨x,hx2.1,rfl,hx2.2,(I.ok hx2.1).1 hx2.2⟩
theorem PF.elemsP_nd (I:PF N K T D) (a b:Nat):(elemsP D.A a b).Nodup:=by
 have h:=I.elems_nd
 refine h.sublist ?_
 unfold elemsP
 exact List.Sublist.map AtV.elem ((List.take_sublist _ _).trans (List.drop_sublist _ _))
theorem PF.mve (I:PF N K T D) {a b K':Nat} (hK:K≤K') {e:IdT} (he:e∈elemsP D.A a b):MvE D K' N e:=by
 obtain⟨x,hx,rfl,_,ho⟩:=I.elem e he
 obtain⟨a1,a2,a3,a4,a5,a6,a7⟩:=I.at_ x hx
 obtain⟨o,ho1,o1,o2⟩:=I.own x hx
 refine⟨I.ci.lv x hx id,fun y hy=>?_,a5,⟨a6,a7⟩,o,ho1,o1,by rw [o2];exact a4⟩
 obtain⟨b1,b2,b3⟩:=I.spn hy
 exact⟨b1,by omega,b3⟩
theorem mid_bytes (I:PF N K T D) (a b:Nat):(elemsP D.A a b).map (byteA D.A)=((shownA D.A).drop a).take (b - a):=by
 unfold elemsP
 rw [←shL_bytes,←List.map_drop,←List.map_take,List.map_map]
 refine List.map_congr_left fun x hx=>?_
 have hx2:=List.mem_of_mem_drop (List.mem_of_mem_take hx)
 unfold Go.Proofs.YtlhlbamcgopiiaaGreatDoor.shL at hx2
 rw [List.mem_filter]at hx2
 obtain⟨o,ho1,o1,o2⟩:=I.own x hx2.1
 have:=byte_own I.ci.nd ho1
 show byteA D.A (x.er,x.en)=x.b
 rw [show((x.er,x.en):IdT)=o.id from o1.symm,this,o2]
theorem keep3 (I:PF N K T D) {a b:Nat} (hab:a≤b) (hb:b≤(shL D.A).length):(∀x∈(shL D.A).take a,decide (x.elem ∉ elemsP D.A a b)=true)∧(∀x∈((shL D.A).drop a).take (b - a),decide (x.elem ∉ elemsP D.A a b)=false)∧(∀x∈(shL D.A).drop b,decide (x.elem ∉ elemsP D.A a b)=true):=by
 have hL:shL D.A=(shL D.A).take a++(((shL D.A).drop a).take (b - a)++(shL D.A).drop b):=by
  have:(shL D.A).drop b=((shL D.A).drop a).drop (b - a):=by rw [List.drop_drop,show a+(b - a)=b by omega]
  rw [this,List.take_append_drop,List.take_append_drop]
 have nd:=I.elems_nd
 rw [hL]at nd
 obtain⟨h1,h2,h3⟩:=cutL nd
 have e:elemsP D.A a b=(((shL D.A).drop a).take (b - a)).map AtV.elem:=rfl
 rw [e]
 exact⟨fun x hx=>List.filter_eq_self.1 h1 x hx,fun x hx=>by have:=List.filter_eq_nil_iff.1 h2 x hx;simpa using this,fun x hx=>List.filter_eq_self.1 h3 x hx⟩
theorem filt_self {f:AtV→Bool} {l:List AtV} (h:∀x∈l,f x=true):l.filter f=l:=List.filter_eq_self.2 h
theorem filt_nil {f:AtV→Bool} {l:List AtV} (h:∀x∈l,f x=false):l.filter f=[]:=List.filter_eq_nil_iff.2 fun x hx=>by rw [h x hx];simp
theorem cut_text (I:PF N K T D) {a b:Nat} (hab:a≤b) (hb:b≤(shL D.A).length):((shL D.A).filter (fun x=>decide (x.elem ∉ elemsP D.A a b))).map (·.b)=(shownA D.A).take a++(shownA D.A).drop b:=by
 obtain⟨h1,h2,h3⟩:=keep3 I hab hb
 obtain⟨L,hLd⟩:∃L,L=shL D.A:=⟨_,rfl⟩
 have hL:L=L.take a++((L.drop a).take (b - a)++L.drop b):=by
  have:L.drop b=(L.drop a).drop (b - a):=by rw [List.drop_drop,show a+(b - a)=b by omega]
  rw [this,List.take_append_drop,List.take_append_drop]
 rw [←shL_bytes,←List.map_take,←List.map_drop]
 rw [←hLd]at h1 h2 h3 ⊢
 conv=>lhs;rw [hL]
 rw [List.filter_append,List.filter_append,filt_self h1,filt_nil h2,filt_self h3,List.nil_append,List.map_append]
theorem mov_text2 (I:PF N K T D) {a b d:Nat} (hab:a < b) (hb:b≤(shL D.A).length) (hd:d≤(shL D.A).length) (hdd:d < a∨b < d):
 (((shL D.A).take d).filter (fun x=>decide (x.elem ∉ elemsP D.A a b))).map (·.b)++((shownA D.A).drop a).take (b - a)++(((shL D.A).drop d).filter (fun x=>decide (x.elem ∉ elemsP D.A a b))).map (·.b)=
 if d < a then(shownA D.A).take d++((shownA D.A).take b).drop a++((shownA D.A).take a).drop d++(shownA D.A).drop b else(shownA D.A).take a++((shownA D.A).take d).drop b++((shownA D.A).take b).drop a++(shownA D.A).drop d:=by
 obtain⟨h1,h2,h3⟩:=keep3 (a:=a) (b:=b) I (by omega) hb
 obtain⟨L,hLd⟩:∃L,L=shL D.A:=⟨_,rfl⟩
 rw [←hLd]at h1 h2 h3 hb hd ⊢
 have hs:shownA D.A=L.map (·.b):=by rw [hLd,shL_bytes]
 rw [hs]
 have hmid:((L.map (·.b)).take b).drop a=((L.map (·.b)).drop a).take (b - a):=by rw [List.drop_take]
 rw [hmid]
 have hL:L=L.take a++((L.drop a).take (b - a)++L.drop b):=by
  have:L.drop b=(L.drop a).drop (b - a):=by rw [List.drop_drop,show a+(b - a)=b by omega]
  rw [this,List.take_append_drop,List.take_append_drop]
 rcases hdd with c | c
 · rw [if_pos c]
   have e1:L.drop d=(L.take a).drop d++((L.drop a).take (b - a)++L.drop b):=by
    conv=>lhs;rw [hL]
    rw [List.drop_append_of_le_length (by rw [List.length_take];omega)]
   rw [e1,List.filter_append,List.filter_append,filt_nil h2,filt_self h3,filt_self (fun x hx=>h1 x (List.mem_of_mem_drop hx)),filt_self (fun x hx=>h1 x (by
    have:L.take d=(L.take a).take d:=by rw [List.take_take,Nat.min_eq_left (by omega)]
    rw [this]at hx
    exact List.mem_of_mem_take hx))]
   simp [List.map_take,List.map_drop,List.append_assoc]
 · rw [if_neg (by omega)]
   have e1:L.take d=L.take a++((L.drop a).take (b - a)++(L.drop b).take (d - b)):=by
    have h5:L.take d=(L.take a++(L.drop a).take (b - a)++L.drop b).take d:=by rw [List.append_assoc,←hL]
    have h6:(L.take a++(L.drop a).take (b - a)).length=b:=by rw [List.length_append,List.length_take,List.length_take,List.length_drop];omega
    rw [h5,List.take_append,List.take_of_length_le (by rw [h6];omega),h6,List.append_assoc]
   rw [e1,List.filter_append,List.filter_append,filt_nil h2,filt_self h1,filt_self (fun x hx=>h3 x (List.mem_of_mem_take hx)),filt_self (fun x hx=>h3 x (by
    have:L.drop d=(L.drop b).drop (d - b):=by rw [List.drop_drop,show b+(d - b)=d by omega]
    rw [this]at hx
    exact List.mem_of_mem_drop hx))]
   have e2:((L.map (·.b)).take d).drop b=((L.map (·.b)).drop b).take (d - b):=by rw [List.drop_take]
   rw [e2]
   simp [List.map_take,List.map_drop,List.append_assoc]
end Go.Proofs.YtlhlbamcgopiiaaGreatDoor
set_option linter.all false
set_option maxRecDepth 100000
set_option maxHeartbeats 4000000
namespace Go.Proofs.YtlhlbamcgopiiaaGreatDoor
open Go Go.RowKit Go.Proofs
def DomD (D D':CV):Prop:=∀k,lookI D'.deeds k=none↔lookI D.deeds k=none
theorem DomD.refl (D:CV):DomD D D:=fun _=>Iff.rfl
theorem DomD.trans {A B C:CV} (h:DomD A B) (g:DomD B C):DomD A C:=fun k=>(g k).trans (h k)
theorem dom_touch (D:CV) (k e:IdT):DomD D (touchD D k e):=by
 intro k'
 unfold touchD
 cases hd:lookI D.deeds k with
 | none=>exact Iff.rfl
 | some d=>
  simp only
  split
  · exact Iff.rfl
  · simp only
    rw [look_put]
    by_cases c:k'=k
    · rw [if_pos c,c,hd];simp
    · rw [if_neg c]
theorem dom_insN (D:CV) (t:TxV) (n:Nat):∀i,DomD D (insN D t n i)
 | 0=>DomD.refl D
 | i+1=>(dom_insN D t n i).trans (dom_touch _ _ _)
theorem dom_insD (D:CV) (t:TxV) (x:IdT) (n:Nat) (tx:Str):DomD D (insD D t x n tx):=fun k=>dom_insN { D with A:=putG D.A x ⟨t.clock,t.r,n,t.r,n,tx,true⟩ } t n tx.length k
theorem dom_delL (k:IdT):∀(l:List IdT) (D:CV),DomD D (delL D k l)
 | [],D=>DomD.refl D
 | e :: l,D=>by
  have h:DomD D (delStep D k e):=fun k'=>by
   show lookI (letD (touchD D k e) k e).deeds k'=none↔_
   rw [(letD_sp D k e).2.2.1];exact dom_touch D k e k'
  exact h.trans (dom_delL k l (delStep D k e))
theorem dom_movN (D:CV) (t:TxV) (s:Sn) (n:Nat):∀i,DomD D (movN D t s n i)
 | 0=>DomD.refl D
 | i+1=>(dom_movN D t s n i).trans (fun k=>dom_touch (movN D t s n i) t.id (plusI s.1 i) k)
theorem dom_movL (t:TxV):∀(l:List Sn) (D:CV) (x:IdT) (n:Nat),DomD D (movL D t x n l)
 | [],D,_,_=>DomD.refl D
 | s :: l,D,x,n=>by
  have h:DomD D (movS D t s x n):=fun k=>dom_movN (movPut D t s x n) t s n s.2 k
  exact h.trans (dom_movL t l _ _ _)
theorem chk_ok {e:Ed} {s:Str} {a b:Int} (h:chk e s.length=(a,b,0)):a=(doS s e).length∧
 ((∃i:Nat,e.kind=1∧e.at_=i∧i≤s.length∧plain e.text=true∧0 < e.text.length∧e.text.length≤64∧b=e.text.length)∨
  (∃i t:Nat,e.kind=2∧e.at_=i∧e.to_=t∧i < t∧t≤s.length∧t - i≤1024∧b=0∧e.dest=0)∨
  (∃i t d:Nat,e.kind=3∧e.at_=i∧e.to_=t∧e.dest=d∧i < t∧t≤s.length∧t - i≤1024∧d≤s.length∧(d < i∨t < d)∧b=(t - i:Nat))):=by
 unfold chk at h
 by_cases h1:e.kind=1
 · rw [if_pos h1]at h
   by_cases c1:e.to_≠0∨e.dest≠0
   · rw [if_pos c1]at h;simp at h
   rw [if_neg c1]at h
   by_cases c2:e.at_ < 0∨(s.length:Int) < e.at_
   · rw [if_pos c2]at h;simp at h
   rw [if_neg c2]at h
   by_cases c3:e.text.length < 1∨plain e.text=false
   · rw [if_pos c3]at h;simp at h
   rw [if_neg c3]at h
   by_cases c4:64 < e.text.length
   · rw [if_pos c4]at h;simp at h
   rw [if_neg c4]at h
   simp only [Prod.mk.injEq,and_true]at h
   obtain⟨rfl,rfl⟩:=h
   have hp:plain e.text=true:=by cases hh:plain e.text with
    | true=>rfl
    | false=>exact(c3 (.inr hh)).elim
   refine⟨?_,.inl ⟨e.at_.toNat,h1,by omega,by omega,hp,by omega,by omega,rfl⟩⟩
   unfold doS
   simp only [h1,if_true,List.length_append,List.length_take,List.length_drop]
   omega
 · rw [if_neg h1]at h
   by_cases h2:e.kind=2∨e.kind=3
   · rw [if_pos h2]at h
     by_cases c1:e.text≠[]∨(e.kind=2∧e.dest≠0)
     · rw [if_pos c1]at h;simp at h
     rw [if_neg c1]at h
     by_cases c2:e.at_ < 0∨e.to_≤e.at_∨(s.length:Int) < e.to_
     · rw [if_pos c2]at h;simp at h
     rw [if_neg c2]at h
     by_cases c3:1024 < e.to_ - e.at_
     · rw [if_pos c3]at h;simp at h
     rw [if_neg c3]at h
     by_cases c4:e.kind=2
     · rw [if_pos c4]at h
       simp only [Prod.mk.injEq,and_true]at h
       obtain⟨rfl,rfl⟩:=h
       refine⟨?_,.inr (.inl ⟨e.at_.toNat,e.to_.toNat,c4,by omega,by omega,by omega,by omega,by omega,rfl,?_⟩)⟩
       · unfold doS
         rw [if_neg h1,if_pos c4]
         simp only [List.length_append,List.length_take,List.length_drop]
         omega
       · exact Classical.byContradiction fun hh=>c1 (.inr ⟨c4,hh⟩)
     · rw [if_neg c4]at h
       have h3:e.kind=3:=h2.resolve_left c4
       by_cases c5:e.dest < 0∨(s.length:Int) < e.dest
       · rw [if_pos c5]at h;simp at h
       rw [if_neg c5]at h
       by_cases c6:e.at_≤e.dest∧e.dest≤e.to_
       · rw [if_pos c6]at h;simp at h
       rw [if_neg c6]at h
       simp only [Prod.mk.injEq,and_true]at h
       obtain⟨rfl,rfl⟩:=h
       refine⟨?_,.inr (.inr ⟨e.at_.toNat,e.to_.toNat,e.dest.toNat,h3,by omega,by omega,by omega,by omega,by omega,by omega,by omega,by omega,by omega⟩)⟩
       unfold doS
       rw [if_neg h1,if_neg c4]
       split <;> simp only [List.length_append,List.length_take,List.length_drop] <;> omega
   · rw [if_neg h2]at h;simp at h
section
variable {ro:Nat→Option (List AVal)} {h:AHeap}
theorem atoms1_ev {x:IdT} {n seq:Nat} {tx:Str} {v:AVal} {Q:AVal→AHeap→Prop} (hq:Q (.int .i64 (tx.length:Nat)) h):Ev (cfgR ro) 17 [opA 1 x n tx v seq] h Q:=by
 refine Ev.wp rfl rfl Tryz.func17 rfl ?_
 simp -implicitDefEqProofs [Tryz.f17,opA]
 exact hq
theorem atoms2_ev {x:IdT} {n seq:Nat} {tx:Str} {v:AVal} {Q:AVal→AHeap→Prop} (hq:Q (.int .i64 0) h):Ev (cfgR ro) 17 [opA 2 x n tx v seq] h Q:=by
 refine Ev.wp rfl rfl Tryz.func17 rfl ?_
 simp -implicitDefEqProofs [Tryz.f17,opA]
 exact hq
theorem atoms3_ev {x:IdT} {n seq:Nat} {tx:Str} {v:AVal} {l:List Sn} (hs:Sl (cfgR ro) h 3 v (l.map snc)) (hl:l.length < 2 ^ 40) (hn:totS l < 2 ^ 40) {Q:AVal→AHeap→Prop} (hq:Q (.int .i64 (totS l:Nat)) h):Ev (cfgR ro) 17 [opA 3 x n tx v seq] h Q:=by
 refine Ev.wp rfl rfl Tryz.func17 rfl ?_
 simp -implicitDefEqProofs [Tryz.f17,opA]
 refine total_ev hs hl hn ?_
 simp -implicitDefEqProofs
 exact hq
end
end Go.Proofs.YtlhlbamcgopiiaaGreatDoor
set_option linter.all false
set_option maxRecDepth 100000
set_option maxHeartbeats 4000000
namespace Go.Proofs.YtlhlbamcgopiiaaGreatDoor
open Go Go.RowKit Go.Proofs
structure EdR (D D2:CV) (N K T bn:Nat) (e:Ed):Prop where
 I:PF (N+bn) K (T+1024) D2
 tx:shownA D2.A=doS (shownA D.A) e
 len:D2.A.length=D.A.length+bn
 el:D2.elems≤D.elems+bn
 dom:DomD D D2
theorem PI.monoT {P Pn:IdT→Prop} {N K T T':Nat} {D:CV} (h:PI P Pn N K T D) (hk:T≤T'):PI P Pn N K T' D:=
 ⟨h.ci,h.at_,h.own,fun e l hl=>by obtain⟨a1,a2,a3⟩:=h.lv e l hl;exact⟨a1,a2,by omega⟩,h.off,fun k d hd=>Nat.le_trans (h.dd k d hd) hk,fun e=>Nat.le_trans (h.sl e) hk,h.inc,Nat.le_trans h.ns hk,Nat.le_trans h.el hk,h.len⟩
section
variable {ro:Nat→Option (List AVal)} {h:AHeap} {s:Nat} {D:CV} {O:Nat→Prop} {N K T:Nat}
end
end Go.Proofs.YtlhlbamcgopiiaaGreatDoor
set_option linter.all false
set_option maxRecDepth 100000
set_option maxHeartbeats 4000000
namespace Go.Proofs.YtlhlbamcgopiiaaGreatDoor
open Go Go.RowKit Go.Proofs
section
variable {ro:Nat→Option (List AVal)} {h:AHeap}
theorem bare1_ev {x:IdT} {n:Nat} {tx:Str} {Q:AVal→AHeap→Prop} (hq:Q (.bool true) h):Ev (cfgR ro) 96 [opA 1 x n tx .nils 0] h Q:=by
 refine Ev.wp rfl rfl Tryz.func96 rfl ?_
 simp -implicitDefEqProofs [Tryz.f96,opA,lenR,lenA]
 exact hq
theorem bare2_ev (hro:ro 0=some [.int .u16 0,.int .u32 0]) {v:AVal} {Q:AVal→AHeap→Prop} (hq:Q (.bool true) h):Ev (cfgR ro) 96 [opA 2 (0,0) 0 [] v 0] h Q:=by
 refine Ev.wp rfl rfl Tryz.func96 rfl ?_
 simp -implicitDefEqProofs [Tryz.f96,opA]
 refine idRoot_ev (r:=0) (n:=0) hro ?_
 simp -implicitDefEqProofs
 exact hq
theorem bare3_ev {x:IdT} {n:Nat} {v:AVal} {Q:AVal→AHeap→Prop} (hq:Q (.bool true) h):Ev (cfgR ro) 96 [opA 3 x n [] v 0] h Q:=by
 refine Ev.wp rfl rfl Tryz.func96 rfl ?_
 simp -implicitDefEqProofs [Tryz.f96,opA]
 exact hq
theorem head_ev {t:TxV} {v:AVal} (h1:1≤t.seq∧t.seq≤268435456) (h2:1≤t.clock∧t.clock≤1099511627776) (h3:t.user=0) {Q:AVal→AHeap→Prop} (hq:Q (.bool true) h):Ev (cfgR ro) 145 [txA t v] h Q:=by
 refine Ev.wp rfl rfl Tryz.func145 rfl ?_
 have d1:(1:Int)≤(t.seq:Int):=by omega
 have d2:(t.seq:Int)≤268435456:=by omega
 have d3:(1:Int)≤(t.clock:Int):=by omega
 have d4:(t.clock:Int)≤1099511627776:=by omega
 simp -implicitDefEqProofs [Tryz.f145,txA,d1,d2,d3,d4,h3]
 exact hq
theorem sLast_ev {x:IdT} {k:Nat} (hk:1≤k) (hn:x.2+k < 2 ^ 32) {Q:AVal→AHeap→Prop} (hq:Q (idA x.1 (x.2+(k - 1))) h):Ev (cfgR ro) 178 [.agg [.int .u16 x.1,.int .u32 x.2,.int .i64 (k:Nat)]] h Q:=by
 refine Ev.wp rfl rfl Tryz.func178 rfl ?_
 have w1:IntKind.i64.wrap ((k:Int) - 1)=((k - 1:Nat):Int):=by rw [w64 (by omega) (by omega)];omega
 simp -implicitDefEqProofs [Tryz.f178,w1]
 refine idPlus_ev (by omega) ?_
 simp -implicitDefEqProofs [idA]
 exact hq
theorem sRight_ev {x:IdT} {k:Nat} (h0:1≤x.2) (h1:1≤k) (h2:k≤1024) (h3:x.2+k≤268435457) {Q:AVal→AHeap→Prop} (hq:Q (.bool true) h):Ev (cfgR ro) 150 [.agg [.int .u16 x.1,.int .u32 x.2,.int .i64 (k:Nat)]] h Q:=by
 refine Ev.wp rfl rfl Tryz.func150 rfl ?_
 have d1:(1:Int)≤(k:Int):=by omega
 have d2:(k:Int)≤1024:=by omega
 obtain⟨m,hm⟩:∃m,m=x.2+k:=⟨_,rfl⟩
 have w0:IntKind.i64.wrap (x.2:Int)=(x.2:Int):=w64 (by omega) (by omega)
 have w1:IntKind.i64.wrap ((x.2:Int)+(k:Int))=(m:Int):=by rw [w64 (by omega) (by omega)];omega
 have w2:IntKind.i64.wrap ((m:Int) - 1)=((m - 1:Nat):Int):=by rw [w64 (by omega) (by omega)];omega
 have d3:((m - 1:Nat):Int)≤268435456:=by omega
 have hr:decide (1≤x.2∧x.2≤268435456)=true:=decide_eq_true ⟨h0,by omega⟩
 simp -implicitDefEqProofs [Tryz.f150]
 refine idRight_ev ?_
 rw [hr]
 simp -implicitDefEqProofs [d1,d2,w0,w1,w2,d3]
 exact hq
theorem fresh0_ev {r:Nat} {x:IdT} {Q:AVal→AHeap→Prop} (hq:Q (.bool false) h):Ev (cfgR ro) 146 [.agg [.int .u16 r,.int .u32 0,.int .u32 0],idA x.1 x.2] h Q:=by
 refine Ev.wp rfl rfl Tryz.func146 rfl ?_
 have d1:¬(x.2:Int) < 0:=by omega
 have d2:(0:Int)≤(x.2:Int):=by omega
 by_cases c:(x.1:Int)=(r:Int)
 · simp -implicitDefEqProofs [Tryz.f146,idA,c,d1,d2]
   exact hq
 · simp -implicitDefEqProofs [Tryz.f146,idA,c]
   exact hq
theorem numbered_ev (hro:ro 0=some [.int .u16 0,.int .u32 0]) {kd:Int} {x:IdT} {n:Nat} {tx:Str} {v:AVal} {A:Nat} (hA:∀Q:AVal→AHeap→Prop,Q (.int .i64 (A:Nat)) h→Ev (cfgR ro) 17 [opA kd x n tx v 0] h Q) (hx:(x.1=0∧x.2=0)∨(1≤x.2∧x.2≤268435456)) (hn:1≤n) (hnA:n+A≤268435457) {Q:AVal→AHeap→Prop} (hq:Q (.bool true) h):Ev (cfgR ro) 99 [opA kd x n tx v 0] h Q:=by
 refine Ev.wp rfl rfl Tryz.func99 rfl ?_
 have d1:(1:Int)≤(n:Int):=by omega
 obtain⟨m,hm⟩:∃m,m=n+A:=⟨_,rfl⟩
 have w0:IntKind.i64.wrap (n:Int)=(n:Int):=w64 (by omega) (by omega)
 have w1:IntKind.i64.wrap ((n:Int)+(A:Int))=(m:Int):=by rw [w64 (by omega) (by omega)];omega
 have w2:IntKind.i64.wrap ((m:Int) - 1)=((m - 1:Nat):Int):=by rw [w64 (by omega) (by omega)];omega
 have d3:((m - 1:Nat):Int)≤268435456:=by omega
 simp only [opA]at hA ⊢
 simp -implicitDefEqProofs [Tryz.f99]
 refine idRoot_ev hro ?_
 by_cases c:x.1=0∧x.2=0
 · rw [decide_eq_true c]
   simp -implicitDefEqProofs [same_self,d1,w0]
   refine hA _ ?_
   simp -implicitDefEqProofs [same_self,w1,w2,d3]
   exact hq
 · rw [decide_eq_false c]
   simp -implicitDefEqProofs [same_self]
   refine idRight_ev ?_
   rw [decide_eq_true (hx.resolve_left c)]
   simp -implicitDefEqProofs [same_self,d1,w0]
   refine hA _ ?_
   simp -implicitDefEqProofs [same_self,w1,w2,d3]
   exact hq
theorem fit1_ev (hro:ro 0=some [.int .u16 0,.int .u32 0]) {x:IdT} {n:Nat} {tx:Str} (hx:(x.1=0∧x.2=0)∨(1≤x.2∧x.2≤268435456)) (hn:1≤n) (ht:0 < tx.length) (htl:tx.length≤64) (hp:plain tx=true) (hnA:n+tx.length≤268435457) {Q:AVal→AHeap→Prop} (hq:∀h',Old h h'→Q (.int .i64 0) h'):Ev (cfgR ro) 46 [opA 1 x n tx .nils 0] h Q:=by
 refine Ev.wp rfl rfl Tryz.func46 rfl ?_
 have hne:tx≠[]:=fun e=>by rw [e]at ht;cases ht
 have d1:¬(64:Int) < (tx.length:Int):=by omega
 have hb:=fun(K:AVal→AHeap→Prop) (hK:K (.bool true) h)=>bare1_ev (ro:=ro) (h:=h) (x:=x) (n:=n) (tx:=tx) hK
 have hnm:=fun(h':AHeap) (K:AVal→AHeap→Prop) (hK:K (.bool true) h')=>numbered_ev (h:=h') hro (kd:=1) (x:=x) (n:=n) (tx:=tx) (v:=.nils) (A:=tx.length) (fun Q hQ=>atoms1_ev hQ) hx hn hnA hK
 simp only [opA]at hb hnm ⊢
 simp -implicitDefEqProofs [Tryz.f46]
 refine hb _ ?_
 simp -implicitDefEqProofs [hne]
 refine plain_ev (by omega) (fun h' o=>?_)
 rw [hp]
 simp -implicitDefEqProofs [d1]
 refine hnm h' _ ?_
 simp -implicitDefEqProofs
 exact hq h' o
end
end Go.Proofs.YtlhlbamcgopiiaaGreatDoor
set_option linter.all false
set_option maxRecDepth 100000
set_option maxHeartbeats 4000000
namespace Go.Proofs.YtlhlbamcgopiiaaGreatDoor
open Go Go.RowKit Go.Proofs
theorem elpo_add {c:Cfg} {h:AHeap} {sz:Nat} {v:AVal} {es:List (List AVal)} (s:Sl c h sz v es) {i d e:Nat} (hi:i < es.length):addOff (elpo v sz i d) e=.ok (elpo v sz i (d+e)):=by
 obtain⟨vs,f,h1,_,h2⟩:=s.rowR (List.getElem?_eq_getElem hi)
 cases v <;> simp only [elp]at h1 <;> unfold YtlhlbamcgopiiaaGreatDoor.rowR at h1 <;> first | (cases h1;done) | (simp only [elpo,addOff,Nat.add_assoc])
section
variable {ro:Nat→Option (List AVal)} {h:AHeap}
theorem apart_ev {v:AVal} {M:List Sn} (hsd:∀Q:AVal→AHeap→Prop,(∀v' h',Old h h'→Mine h h' 3 (M.map snc) v'→Q v' h')→Ev (cfgR ro) 180 [v] h Q) (hok:∀i a b,M[i]?=some a→M[i+1]?=some b→a.1.1=b.1.1→a.1.2+a.2≤b.1.2) (h1:∀s∈M,1≤s.2∧s.1.2+s.2 < 2 ^ 30) (hl:M.length < 2 ^ 40) {Q:AVal→AHeap→Prop} (hq:∀h',Old h h'→Q (.bool true) h'):Ev (cfgR ro) 151 [v] h Q:=by
 refine Ev.wp rfl rfl Tryz.func151 rfl ?_
 simp -implicitDefEqProofs [Tryz.f151]
 refine hsd _ (fun v' h' o mm=>?_)
 have hs:=Mine.sl (c:=cfgR ro) mm
 have hL:lenR (cfgR ro) h' 56 v'=.ok (.int .i64 (M.length:Nat)):=by have:=hs.lenR (t:=56) un56;simpa using this
 have hX:∀i,i < M.length→indexAddrR Tryz.prog 56 v' (.int .i64 (i:Int))=.ok (elp v' 3 i):=fun i hi=>hs.idx un56 sz157 (by simpa using hi)
 simp -implicitDefEqProofs
 obtain⟨I,hI⟩:∃I:Nat→List AVal→AHeap→Prop,I=fun m env h2=>h2=h'∧∃i:Nat,1≤i∧(m+i=M.length+1∨M.length=0)∧env=(.dead :: .dead :: .dead :: v' :: .int .i64 (i:Nat) :: .dead :: .dead :: .dead :: .dead :: .dead :: .dead :: .dead :: .dead :: .dead :: .dead :: .dead :: .dead :: .dead :: .dead :: .dead :: .dead :: .dead :: .dead :: .dead :: .dead :: .dead :: .dead :: .dead :: .dead :: .dead :: .dead :: .dead :: .dead :: .dead :: .dead :: .dead :: .dead :: .dead :: .dead :: .dead :: .dead :: .dead :: .dead :: []):=⟨_,rfl⟩
 refine loop_of I ?_ M.length (by rw [hI];exact⟨rfl,1,Nat.le_refl _,.inl rfl,rfl⟩)
 intro m env h2 hi
 rw [hI]at hi
 obtain⟨rfl,i,hi1,him,rfl⟩:=hi
 simp -implicitDefEqProofs [hL]
 by_cases hlt:i < M.length
 · obtain⟨j,rfl⟩:∃j,i=j+1:=⟨i - 1,by omega⟩
   have ga:=List.getElem?_eq_getElem (show j < M.length by omega)
   have gb:=List.getElem?_eq_getElem hlt
   obtain⟨a,ha⟩:∃a,a=M[j]:=⟨_,rfl⟩
   obtain⟨b,hb⟩:∃b,b=M[j+1]:=⟨_,rfl⟩
   rw [←ha]at ga
   rw [←hb]at gb
   have w1:IntKind.i64.wrap (((j+1:Nat):Int) - 1)=(j:Int):=by rw [w64 (by omega) (by omega)];omega
   have w2:IntKind.i64.wrap (((j+1:Nat):Int)+1)=((j+2:Nat):Int):=by rw [w64 (by omega) (by omega)];omega
   have w2':=w2
   have hj0:j < (M.map snc).length:=by simp;omega
   have hj1:j+1 < (M.map snc).length:=by simp;omega
   have oa:∀d,addOff (elp v' 3 j) d=.ok (elpo v' 3 j d):=fun d=>elp_off hs hj0
   have ob:∀d,addOff (elp v' 3 (j+1)) d=.ok (elpo v' 3 (j+1) d):=fun d=>elp_off hs hj1
   have pa:∀d e,addOff (elpo v' 3 j d) e=.ok (elpo v' 3 j (d+e)):=fun d e=>elpo_add hs hj0
   have pb:∀d e,addOff (elpo v' 3 (j+1) d) e=.ok (elpo v' 3 (j+1) (d+e)):=fun d e=>elpo_add hs hj1
   have ea:(M.map snc)[j]?=some (snc a):=by rw [List.getElem?_map,ga];rfl
   have eb:(M.map snc)[j+1]?=some (snc b):=by rw [List.getElem?_map,gb];rfl
   have la:loadR (cfgR ro) h2 47 (elpo v' 3 j 0)=.ok (.int .u16 a.1.1):=hs.loadF ea rfl ag47
   have lb:loadR (cfgR ro) h2 47 (elpo v' 3 (j+1) 0)=.ok (.int .u16 b.1.1):=hs.loadF eb rfl ag47
   have lc:loadR (cfgR ro) h2 41 (elpo v' 3 (j+1) 1)=.ok (.int .u32 b.1.2):=hs.loadF eb rfl ag41
   have ld:loadR (cfgR ro) h2 157 (elp v' 3 j)=.ok (.agg (snc a)):=hs.load ea ag157 sz157
   have x1:=hX j (by omega)
   have x2:=hX (j+1) hlt
   obtain⟨i,hi⟩:∃i,i=j+1:=⟨_,rfl⟩
   rw [←hi]at w1 w2 hj1 ob pb lb lc x2 hlt gb eb
   rw [←hi]
   have hlt':(i:Int) < (M.length:Int):=by omega
   have wa:=h1 a (List.mem_of_getElem? ga)
   simp -implicitDefEqProofs [hlt,hlt',w1,x1,x2,oa,ob,pa,pb,la,lb,same_self]
   by_cases c:(a.1.1:Int)=(b.1.1:Int)
   · have hk:=hok j a b ga (by rw [←hi];exact gb) (by omega)
     have d1:¬(b.1.2:Int)≤((a.1.2+(a.2 - 1):Nat):Int):=by omega
     obtain⟨e,he⟩:∃e,e=a.1.2+(a.2 - 1):=⟨_,rfl⟩
     rw [←he]at d1
     simp -implicitDefEqProofs [c,w1,x1,ld,snc]
     refine sLast_ev (x:=(b.1.1,a.1.2)) (k:=a.2) wa.1 (by omega) ?_
     rw [←he]
     simp -implicitDefEqProofs [same_self,idA,w1,x1,x2,oa,ob,pa,pb,la,lb,lc,ld,snc,c,d1]
     exact .mk (m:=m - 1) (by omega) (by rw [hI];exact⟨rfl,j+2,by omega,by omega,by rw [hi,w2']⟩)
   · simp -implicitDefEqProofs [c,same_self,w2,w1,x1,x2,oa,ob,pa,pb,la,lb]
     exact .mk (m:=m - 1) (by omega) (by rw [hI];exact⟨rfl,j+2,by omega,by omega,rfl⟩)
 · have c0:¬(i:Int) < (M.length:Int):=by omega
   simp -implicitDefEqProofs [hlt,c0]
   exact hq _ o
end
end Go.Proofs.YtlhlbamcgopiiaaGreatDoor
set_option linter.all false
set_option maxRecDepth 100000
set_option maxHeartbeats 4000000
namespace Go.Proofs.YtlhlbamcgopiiaaGreatDoor
open Go Go.RowKit Go.Proofs
theorem totS_take {L:List Sn} {i:Nat} {s:Sn} (h:L[i]?=some s):totS (L.take (i+1))=totS (L.take i)+s.2:=by
 unfold totS
 rw [List.take_succ,h]
 simp
theorem totS_le (L:List Sn) (i:Nat):totS (L.take i)≤totS L:=by
 have:=congrArg (fun l=>(l.map (·.2)).sum) (List.take_append_drop i L)
 simp only [List.map_append,List.sum_append]at this
 unfold totS;omega
section
variable {ro:Nat→Option (List AVal)} {h:AHeap}
theorem sfit_ev {v:AVal} {L:List Sn} (hs:Sl (cfgR ro) h 3 v (L.map snc)) (hl0:0 < L.length) (hl:L.length≤1024) (hr:∀s∈L,1≤s.1.2∧1≤s.2∧s.2≤1024∧s.1.2+s.2≤268435457) (ht:totS L≤1024) (hap:∀Q:AVal→AHeap→Prop,(∀h',Old h h'→Q (.bool true) h')→Ev (cfgR ro) 151 [v] h Q) {Q:AVal→AHeap→Prop} (hq:∀h',Old h h'→Q (.int .i64 0) h'):Ev (cfgR ro) 98 [v] h Q:=by
 refine Ev.wp rfl rfl Tryz.func98 rfl ?_
 have hL:lenR (cfgR ro) h 56 v=.ok (.int .i64 (L.length:Nat)):=by have:=hs.lenR (t:=56) un56;simpa using this
 have hX:∀i,i < L.length→indexAddrR Tryz.prog 56 v (.int .i64 (i:Int))=.ok (elp v 3 i):=fun i hi=>hs.idx un56 sz157 (by simpa using hi)
 have n0:¬L.length=0:=by omega
 have n0':¬L=[]:=fun e=>by rw [e]at hl0;cases hl0
 have n1:¬(1024:Int) < (L.length:Int):=by omega
 have n2:¬1024 < L.length:=by omega
 simp -implicitDefEqProofs [Tryz.f98,hL,n0,n0',n1,n2]
 obtain⟨I,hI⟩:∃I:Nat→List AVal→AHeap→Prop,I=fun m env h2=>h2=h∧∃i:Nat,i+m=L.length∧env=(v :: .dead :: .dead :: .int .i64 (totS (L.take i):Nat) :: .dead :: .dead :: .dead :: .dead :: .dead :: .dead :: .dead :: .dead :: v :: .int .i64 (L.length:Nat) :: .int .i64 (i:Nat) :: .dead :: .dead :: .dead :: .dead :: .dead :: .dead :: .dead :: .dead :: .dead :: .dead :: .dead :: .dead :: .dead :: .dead :: .dead :: .dead :: []):=⟨_,rfl⟩
 refine loop_of I ?_ L.length (by rw [hI];exact⟨rfl,0,by omega,rfl⟩)
 intro m env h2 hi
 rw [hI]at hi
 obtain⟨rfl,i,him,rfl⟩:=hi
 by_cases hlt:i < L.length
 · have ga:=List.getElem?_eq_getElem hlt
   obtain⟨a,ha⟩:∃a,a=L[i]:=⟨_,rfl⟩
   rw [←ha]at ga
   have ea:(L.map snc)[i]?=some (snc a):=by rw [List.getElem?_map,ga];rfl
   have ld:loadR (cfgR ro) h2 157 (elp v 3 i)=.ok (.agg (snc a)):=hs.load ea ag157 sz157
   have x1:=hX i hlt
   have hra:=hr a (List.mem_of_getElem? ga)
   have t1:=totS_take ga
   have t2:=totS_le L (i+1)
   obtain⟨T0,hT0⟩:∃T0,T0=totS (L.take i):=⟨_,rfl⟩
   obtain⟨T1,hT1⟩:∃T1,T1=totS (L.take (i+1)):=⟨_,rfl⟩
   rw [←hT0,←hT1]at t1
   rw [←hT1]at t2
   have w1:IntKind.i64.wrap ((T0:Int)+(a.2:Int))=(T1:Int):=by rw [w64 (by omega) (by omega)];omega
   have w2:IntKind.i64.wrap ((i:Int)+1)=((i+1:Nat):Int):=by rw [w64 (by omega) (by omega)];omega
   have n3:¬(1024:Int) < (T1:Int):=by omega
   have n4:¬1024 < T1:=by omega
   rw [←hT0]
   simp -implicitDefEqProofs [hlt,x1,ld,snc]
   refine sRight_ev (x:=a.1) (k:=a.2) hra.1 hra.2.1 hra.2.2.1 hra.2.2.2 ?_
   simp -implicitDefEqProofs [w1,w2,n3,n4]
   exact .mk (m:=m - 1) (by omega) (by rw [hI];exact⟨rfl,i+1,by omega,by rw [←hT1];rfl⟩)
 · simp -implicitDefEqProofs [hlt]
   refine hap _ (fun h' o=>?_)
   simp -implicitDefEqProofs
   exact hq h' o
theorem fit2_ev (hro:ro 0=some [.int .u16 0,.int .u32 0]) {v:AVal} (hsf:∀Q:AVal→AHeap→Prop,(∀h',Old h h'→Q (.int .i64 0) h')→Ev (cfgR ro) 98 [v] h Q) {Q:AVal→AHeap→Prop} (hq:∀h',Old h h'→Q (.int .i64 0) h'):Ev (cfgR ro) 46 [opA 2 (0,0) 0 [] v 0] h Q:=by
 refine Ev.wp rfl rfl Tryz.func46 rfl ?_
 have hb:=fun(K:AVal→AHeap→Prop) (hK:K (.bool true) h)=>bare2_ev (ro:=ro) (h:=h) hro (v:=v) hK
 simp only [opA]at hb ⊢
 simp -implicitDefEqProofs [Tryz.f46]
 refine hb _ ?_
 simp -implicitDefEqProofs
 refine hsf _ (fun h' o=>?_)
 simp -implicitDefEqProofs
 exact hq h' o
theorem fit3_ev (hro:ro 0=some [.int .u16 0,.int .u32 0]) {x:IdT} {n A:Nat} {v:AVal} (hA:∀h',Old h h'→∀Q:AVal→AHeap→Prop,Q (.int .i64 (A:Nat)) h'→Ev (cfgR ro) 17 [opA 3 x n [] v 0] h' Q) (hx:(x.1=0∧x.2=0)∨(1≤x.2∧x.2≤268435456)) (hn:1≤n) (hnA:n+A≤268435457) (hsf:∀Q:AVal→AHeap→Prop,(∀h',Old h h'→Q (.int .i64 0) h')→Ev (cfgR ro) 98 [v] h Q) {Q:AVal→AHeap→Prop} (hq:∀h',Old h h'→Q (.int .i64 0) h'):Ev (cfgR ro) 46 [opA 3 x n [] v 0] h Q:=by
 refine Ev.wp rfl rfl Tryz.func46 rfl ?_
 have hb:=fun(K:AVal→AHeap→Prop) (hK:K (.bool true) h)=>bare3_ev (ro:=ro) (h:=h) (x:=x) (n:=n) (v:=v) hK
 have hnm:=fun(h':AHeap) (o:Old h h') (K:AVal→AHeap→Prop) (hK:K (.bool true) h')=>numbered_ev (h:=h') hro (kd:=3) (x:=x) (n:=n) (tx:=[]) (v:=v) (A:=A) (hA h' o) hx hn hnA hK
 simp only [opA]at hb hnm ⊢
 simp -implicitDefEqProofs [Tryz.f46]
 refine hb _ ?_
 simp -implicitDefEqProofs
 refine hsf _ (fun h' o=>?_)
 simp -implicitDefEqProofs
 refine hnm h' o _ ?_
 simp -implicitDefEqProofs
 exact hq h' o
end
end Go.Proofs.YtlhlbamcgopiiaaGreatDoor
set_option linter.all false
set_option maxRecDepth 100000
set_option maxHeartbeats 4000000
namespace Go.Proofs.YtlhlbamcgopiiaaGreatDoor
open Go Go.RowKit Go.Proofs
section
variable {ro:Nat→Option (List AVal)} {h:AHeap}
def opC (kind:Int) (x:IdT) (n:Nat) (tx:Str) (v:AVal) (seq:Nat):List AVal:=[.int .i64 kind,.int .u16 x.1,.int .u32 x.2,.int .u32 n,.str tx,v,.int .u32 seq]
theorem tundo_ev {t:TxV} {sv v:AVal} {kd:Int} {x:IdT} {n:Nat} {tx:Str} (hs:Sl (cfgR ro) h 7 sv [opC kd x n tx v 0]) (hk:kd < 4) {Q:AVal→AHeap→Prop} (hq:Q (.tuple [.agg [.int .u16 0,.int .u32 0],.bool false]) h):Ev (cfgR ro) 58 [txA t sv] h Q:=by
 refine Ev.wp rfl rfl Tryz.func58 rfl ?_
 have hL:lenR (cfgR ro) h 48 sv=.ok (.int .i64 1):=hs.lenR (t:=48) un48
 have hX:indexAddrR Tryz.prog 48 sv (.int .i64 0)=.ok (elp sv 7 0):=hs.idx (i:=0) un48 sz58 (by simp)
 have hA:loadR (cfgR ro) h 3 (elp sv 7 0)=.ok (.int .i64 kd):=hs.load1 (i:=0) rfl rfl ag3
 have o0:addOff (elp sv 7 0) 0=.ok (elpo sv 7 0 0):=elp_off hs (by simp)
 have lo:loadR (cfgR ro) h 3 (elpo sv 7 0 0)=.ok (.int .i64 kd):=hs.loadF (i:=0) (d:=0) rfl rfl ag3
 simp -implicitDefEqProofs [Tryz.f58,txA,hL,hX,o0,lo,hk,same_self]
 exact hq
theorem tatoms_ev {t:TxV} {sv v:AVal} {kd:Int} {x:IdT} {n A:Nat} {tx:Str} (hs:Sl (cfgR ro) h 7 sv [opC kd x n tx v 0]) (hA:∀Q:AVal→AHeap→Prop,Q (.int .i64 (A:Nat)) h→Ev (cfgR ro) 17 [opA kd x n tx v 0] h Q) (hb:A < 2 ^ 40) {Q:AVal→AHeap→Prop} (hq:Q (.int .i64 (A:Nat)) h):Ev (cfgR ro) 92 [txA t sv] h Q:=by
 refine Ev.wp rfl rfl Tryz.func92 rfl ?_
 have hL:lenR (cfgR ro) h 48 sv=.ok (.int .i64 1):=hs.lenR (t:=48) un48
 have hX:indexAddrR Tryz.prog 48 sv (.int .i64 0)=.ok (elp sv 7 0):=hs.idx (i:=0) un48 sz58 (by simp)
 have hl:loadR (cfgR ro) h 58 (elp sv 7 0)=.ok (.agg (opC kd x n tx v 0)):=hs.load (i:=0) rfl ag58 sz58
 have w1:IntKind.i64.wrap ((A:Nat):Int)=((A:Nat):Int):=w64 (by omega) (by omega)
 simp only [opA]at hA
 simp -implicitDefEqProofs [Tryz.f92,txA,hL]
 obtain⟨I,hI⟩:∃I:Nat→List AVal→AHeap→Prop,I=fun m env h2=>h2=h∧((m=1∧env=(.dead :: .dead :: .dead :: .int .i64 0 :: .dead :: .dead :: .dead :: sv :: .int .i64 1 :: .int .i64 0 :: .dead :: .dead :: .dead :: .dead :: .dead :: .dead :: .dead :: .dead :: .dead :: []))∨(m=0∧env=(.dead :: .dead :: .dead :: .int .i64 (A:Nat) :: .dead :: .dead :: .dead :: sv :: .int .i64 1 :: .int .i64 1 :: .dead :: .dead :: .dead :: .dead :: .dead :: .dead :: .dead :: .dead :: .dead :: []))):=⟨_,rfl⟩
 refine loop_of I ?_ 1 (by rw [hI];exact⟨rfl,.inl ⟨rfl,rfl⟩⟩)
 intro m env h2 hi
 rw [hI]at hi
 obtain⟨rfl,⟨rfl,rfl⟩ | ⟨rfl,rfl⟩⟩:=hi
 · simp -implicitDefEqProofs [hX,hl,opC]
   refine hA _ ?_
   simp -implicitDefEqProofs [w1]
   exact .mk (m:=0) (by omega) (by rw [hI];exact⟨rfl,.inr ⟨rfl,rfl⟩⟩)
 · simp -implicitDefEqProofs
   exact hq
theorem tfit_ev {t:TxV} {sv v:AVal} {kd:Int} {x:IdT} {n A:Nat} {tx:Str} (hs:Sl (cfgR ro) h 7 sv [opC kd x n tx v 0]) (hk:kd < 4) (h1:1≤t.seq∧t.seq≤268435456) (h2:1≤t.clock∧t.clock≤1099511627776) (h3:t.user=0) (hA:∀h',Old h h'→∀Q:AVal→AHeap→Prop,Q (.int .i64 (A:Nat)) h'→Ev (cfgR ro) 17 [opA kd x n tx v 0] h' Q) (hf:∀Q:AVal→AHeap→Prop,(∀h',Old h h'→Q (.int .i64 0) h')→Ev (cfgR ro) 46 [opA kd x n tx v 0] h Q) (hb:n+A < 2 ^ 32) {Q:AVal→AHeap→Prop} (hq:∀h',Old h h'→Q (.int .i64 0) h'):Ev (cfgR ro) 88 [txA t sv] h Q:=by
 refine Ev.wp rfl rfl Tryz.func88 rfl ?_
 have hL:∀h',Old h h'→lenR (cfgR ro) h' 48 sv=.ok (.int .i64 1):=fun h' o=>(hs.old o).lenR (t:=48) un48
 have hL0:=hL h (Old.refl h)
 have hX:indexAddrR Tryz.prog 48 sv (.int .i64 0)=.ok (elp sv 7 0):=hs.idx (i:=0) un48 sz58 (by simp)
 have hl:loadR (cfgR ro) h 58 (elp sv 7 0)=.ok (.agg (opC kd x n tx v 0)):=hs.load (i:=0) rfl ag58 sz58
 have hd:=fun(K:AVal→AHeap→Prop) (hK:K (.bool true) h)=>head_ev (ro:=ro) (h:=h) (t:=t) (v:=sv) h1 h2 h3 hK
 simp only [opA]at hA hf
 simp only [txA]at hd ⊢
 simp -implicitDefEqProofs [Tryz.f88]
 refine hd _ ?_
 simp -implicitDefEqProofs [hL0]
 have g4:¬(4:Int)≤kd:=by omega
 refine scope_loop2 (by simp [findLabel]) (fun m env h'=>h'=h∧env=(.dead :: .cell [.int .u16 t.r,.int .u32 t.seq,.int .u64 t.clock,.int .i64 t.user,sv] :: .dead :: .int .u32 0 :: .int .i64 0 :: .dead :: .dead :: .dead :: .dead :: .dead :: .dead :: .dead :: .dead :: .dead :: .dead :: .dead :: .dead :: .dead :: .dead :: .dead :: .bool false :: .dead :: .dead :: .dead :: .dead :: .dead :: .dead :: .dead :: .dead :: .dead :: .dead :: .dead :: .dead :: .dead :: .dead :: .dead :: .dead :: .dead :: .dead :: .dead :: .dead :: .dead :: .dead :: .dead :: .dead :: .dead :: .dead :: .dead :: .dead :: .dead :: .dead :: .dead :: .dead :: .dead :: .dead :: .dead :: .dead :: .dead :: .dead :: .dead :: .dead :: .dead :: .dead :: .dead :: .dead :: .dead :: .dead :: .dead :: .dead :: .dead :: .dead :: [])) ?_ 0 ⟨rfl,rfl⟩
 rintro m env h' - ⟨rfl,rfl⟩
 simp -implicitDefEqProofs [hX,hl,opC]
 refine hf _ (fun h2 o2=>?_)
 simp -implicitDefEqProofs [g4]
 refine hA h2 o2 _ ?_
 have hL2:=hL h2 o2
 have w1:IntKind.u32.wrap (A:Int)=(A:Int):=by rw [wrap32,Int.emod_eq_of_lt (by omega) (by omega)]
 obtain⟨m1,hm1⟩:∃m1,m1=n+A:=⟨_,rfl⟩
 have w2:IntKind.u32.wrap ((n:Int)+(A:Int))=(m1:Int):=by rw [wrap32,Int.emod_eq_of_lt (by omega) (by omega)];omega
 have w3:IntKind.i64.wrap 1=1:=by decide
 by_cases c:0 < A
 · simp -implicitDefEqProofs [c,hL2,w1,w2,w3]
   exact hq h2 o2
 · simp -implicitDefEqProofs [c,hL2,w3]
   exact hq h2 o2
end
end Go.Proofs.YtlhlbamcgopiiaaGreatDoor
set_option linter.all false
set_option maxRecDepth 100000
set_option maxHeartbeats 4000000
namespace Go.Proofs.YtlhlbamcgopiiaaGreatDoor
open Go Go.RowKit Go.Proofs
section
variable {ro:Nat→Option (List AVal)} {h:AHeap} {s:Nat} {D:CV} {O:Nat→Prop}
theorem cshas_ev (C:CSt h s O D) {ar an:Nat} (ha:an < 2 ^ 32) {Q:AVal→AHeap→Prop} (hq:Q (.bool (atIx D.A ar an).isSome) h):Ev (cfgR ro) 149 [.ptr s 0,idA ar an] h Q:=by
 obtain⟨col,spm,dm,lm,fs,fd,fl,rfl,C⟩:=C
 exact shasG_ev C.st ha hq
theorem cfree_ev (C:CSt h s O D) {t:TxV} {sv v:AVal} {kd:Int} {x:IdT} {n A:Nat} {tx:Str} (hA:∀Q:AVal→AHeap→Prop,Q (.int .i64 (A:Nat)) h→Ev (cfgR ro) 17 [opA kd x n tx v 0] h Q) (hno:∀i,i < A→atIx D.A t.r (n+i)=none) (hb:n+A < 2 ^ 32) {Q:AVal→AHeap→Prop} (hq:Q (.bool true) h):Ev (cfgR ro) 91 [.ptr s 0,txA t sv,opA kd x n tx v 0] h Q:=by
 refine Ev.wp rfl rfl Tryz.func91 rfl ?_
 simp only [opA]at hA ⊢
 simp -implicitDefEqProofs [Tryz.f91,txA]
 refine hA _ ?_
 simp -implicitDefEqProofs
 obtain⟨I,hI⟩:∃I:Nat→List AVal→AHeap→Prop,I=fun m env h2=>h2=h∧∃i:Nat,i+m=A∧env=(.ptr s 0 :: .dead :: .dead :: .dead :: .cell [.int .u16 t.r,.int .u32 t.seq,.int .u64 t.clock,.int .i64 t.user,sv] :: .cell [.int .i64 kd,.int .u16 x.1,.int .u32 x.2,.int .u32 n,.str tx,v,.int .u32 0] :: .dead :: .dead :: .dead :: .int .i64 (A:Nat) :: .int .i64 (i:Nat) :: .dead :: .dead :: .dead :: .dead :: .dead :: .dead :: .dead :: .dead :: .dead :: .dead :: .dead :: .dead :: .dead :: .dead :: []):=⟨_,rfl⟩
 refine loop_of I ?_ A (by rw [hI];exact⟨rfl,0,by omega,rfl⟩)
 intro m env h2 hi
 rw [hI]at hi
 obtain⟨rfl,i,him,rfl⟩:=hi
 by_cases hlt:i < A
 · have w2:IntKind.i64.wrap ((i:Int)+1)=((i+1:Nat):Int):=by rw [w64 (by omega) (by omega)];omega
   have hn:=hno i hlt
   simp -implicitDefEqProofs [hlt,same_self]
   refine idPlus_ev (by omega) ?_
   obtain⟨k,hk⟩:∃k,k=n+i:=⟨_,rfl⟩
   rw [←hk]at hn ⊢
   simp -implicitDefEqProofs [idA,same_self]
   refine cshas_ev C (ar:=t.r) (an:=k) (by omega) ?_
   rw [hn]
   simp -implicitDefEqProofs [same_self,w2]
   exact .mk (m:=m - 1) (by omega) (by rw [hI];exact⟨rfl,i+1,by omega,rfl⟩)
 · simp -implicitDefEqProofs [hlt]
   exact hq
theorem cknown_ev (C:CSt h s O D) {v:AVal} {L:List Sn} (hs:Sl (cfgR ro) h 3 v (L.map snc)) (hl:L.length < 2 ^ 40) (hok:∀s∈L,s.1.2+s.2 < 2 ^ 32) (hn:(idsOf L).length < 2 ^ 30) (hk:∀a∈idsOf L,(lookI D.lives a).isSome=true) {Q:AVal→AHeap→Prop} (hq:∀h',Old h h'→Q (.bool true) h'):Ev (cfgR ro) 90 [.ptr s 0,v,.nils] h Q:=by
 refine Ev.wp rfl rfl Tryz.func90 rfl ?_
 simp -implicitDefEqProofs [Tryz.f90]
 refine scope_loop2 (by simp [findLabel]) (fun m env h'=>h'=h∧env=(.ptr s 0 :: v :: .nils :: .dead :: .dead :: .dead :: .dead :: .dead :: .dead :: .dead :: .dead :: .dead :: .dead :: .dead :: .dead :: .dead :: .dead :: .dead :: .dead :: .dead :: .dead :: .dead :: .dead :: .dead :: .dead :: .dead :: .dead :: .dead :: .dead :: .dead :: .dead :: .dead :: .dead :: .dead :: [])) ?_ 0 ⟨rfl,rfl⟩
 rintro m env h' - ⟨rfl,rfl⟩
 simp -implicitDefEqProofs
 refine ids_ev hs hl hok hn (fun v' h2 o m2=>?_)
 have hs2:=Mine.sl (c:=cfgR ro) m2
 have hL:lenR (cfgR ro) h2 113 v'=.ok (.int .i64 ((idsOf L).length:Nat)):=by have:=hs2.lenR (t:=113) un113;simpa using this
 have hX:∀i,i < (idsOf L).length→indexAddrR Tryz.prog 113 v' (.int .i64 (i:Int))=.ok (elp v' 2 i):=fun i hi=>hs2.idx un113 sz55 (by simpa using hi)
 simp -implicitDefEqProofs [hL]
 obtain⟨I,hI⟩:∃I:Nat→List AVal→AHeap→Prop,I=fun m env h3=>h3=h2∧∃i:Nat,i+m=(idsOf L).length∧env=(.ptr s 0 :: .dead :: .nils :: .dead :: .dead :: .dead :: .dead :: .dead :: .dead :: .dead :: .dead :: .dead :: v' :: .int .i64 ((idsOf L).length:Nat) :: .int .i64 (i:Nat) :: .dead :: .dead :: .dead :: .dead :: .dead :: .dead :: .dead :: .dead :: .dead :: .dead :: .dead :: .dead :: .dead :: .dead :: .dead :: .dead :: .dead :: .dead :: .dead :: []):=⟨_,rfl⟩
 refine loop_of I ?_ (idsOf L).length (by rw [hI];exact⟨rfl,0,by omega,rfl⟩)
 intro m3 env h3 hi
 rw [hI]at hi
 obtain⟨rfl,i,him,rfl⟩:=hi
 by_cases hlt:i < (idsOf L).length
 · have ga:=List.getElem?_eq_getElem hlt
   obtain⟨a,ha⟩:∃a,a=(idsOf L)[i]:=⟨_,rfl⟩
   rw [←ha]at ga
   have ea:((idsOf L).map idc)[i]?=some (idc a):=by rw [List.getElem?_map,ga];rfl
   have ld:loadR (cfgR ro) h3 55 (elp v' 2 i)=.ok (.agg (idc a)):=hs2.load ea ag55 sz55
   have x1:=hX i hlt
   have hka:=hk a (List.mem_of_getElem? ga)
   have w2:IntKind.i64.wrap ((i:Int)+1)=((i+1:Nat):Int):=by rw [w64 (by omega) (by omega)];omega
   simp -implicitDefEqProofs [hlt,x1,ld,idc,same_self]
   refine thas_ev (C.old o) (k:=a) ?_
   rw [hka]
   simp -implicitDefEqProofs [same_self,w2]
   exact .mk (m:=m3 - 1) (by omega) (by rw [hI];exact⟨rfl,i+1,by omega,rfl⟩)
 · simp -implicitDefEqProofs [hlt]
   exact hq _ o
end
end Go.Proofs.YtlhlbamcgopiiaaGreatDoor
set_option linter.all false
set_option maxRecDepth 100000
set_option maxHeartbeats 4000000
namespace Go.Proofs.YtlhlbamcgopiiaaGreatDoor
open Go Go.RowKit Go.Proofs
section
variable {ro:Nat→Option (List AVal)} {h:AHeap} {s:Nat} {D:CV} {O:Nat→Prop}
theorem canch_ev (hro:ro 0=some [.int .u16 0,.int .u32 0]) (C:CSt h s O D) {x:IdT} {k:KeyT} (hx:x.2 < 2 ^ 32) (hok:x=(0,0)∨∃a∈D.A,a.id=x∧klt a.key k) {Q:AVal→AHeap→Prop} (hq:∀h',Old h h'→Q (.bool true) h'):Ev (cfgR ro) 147 [.ptr s 0,idA x.1 x.2,keyA k.1 k.2.1 k.2.2] h Q:=by
 obtain⟨col,spm,dm,lm,fs,fd,fl,rfl,C⟩:=C
 refine ganch_ev hro C.st hx (fun b h' o hb=>?_)
 have:b=true:=hb.2 hok
 rw [this]
 exact hq h' o
theorem canchored_ev (hro:ro 0=some [.int .u16 0,.int .u32 0]) (C:CSt h s O D) {t:TxV} {sv v:AVal} {kd:Int} {x:IdT} {n:Nat} {tx:Str} {r:Nat} (hx:x.2 < 2 ^ 32) (hok:x=(0,0)∨∃a∈D.A,a.id=x∧klt a.key (t.clock,t.r,n)) {Q:AVal→AHeap→Prop} (hq:∀h',Old h h'→Q (.bool true) h'):Ev (cfgR ro) 89 [.ptr s 0,txA t sv,opA kd x n tx v 0,.agg [.int .u16 r,.int .u32 0,.int .u32 0]] h Q:=by
 refine Ev.wp rfl rfl Tryz.func89 rfl ?_
 have hk:=fun(K:AVal→AHeap→Prop) (hK:K (keyA t.clock t.r n) h)=>txkey_ev (ro:=ro) (h:=h) (t:=t) (v:=sv) (n:=n) hK
 simp only [txA]at hk
 simp only [opA,txA]
 simp -implicitDefEqProofs [Tryz.f89]
 refine fresh0_ev (x:=x) ?_
 simp -implicitDefEqProofs [same_self]
 refine hk _ ?_
 simp -implicitDefEqProofs [same_self]
 refine canch_ev hro C (x:=x) (k:=(t.clock,t.r,n)) hx hok (fun h' o=>?_)
 simp -implicitDefEqProofs [same_self]
 exact hq h' o
end
end Go.Proofs.YtlhlbamcgopiiaaGreatDoor
set_option linter.all false
set_option maxRecDepth 100000
set_option maxHeartbeats 4000000
namespace Go.Proofs.YtlhlbamcgopiiaaGreatDoor
open Go Go.RowKit Go.Proofs
section
variable {ro:Nat→Option (List AVal)} {h:AHeap} {s:Nat} {D:CV} {O:Nat→Prop}
theorem cslen_ev (C:CSt h s O D) {Q:AVal→AHeap→Prop} (hq:Q (.int .i64 (D.A.length:Nat)) h):Ev (cfgR ro) 71 [.ptr s 0] h Q:=by
 obtain⟨col,spm,dm,lm,fs,fd,fl,rfl,C⟩:=C
 obtain⟨m1,t,ix,a1,a2,a3,a4,a5,a6,a7⟩:=C.st
 have hlen:D.A.length=t.at_:=by rw [←a5,flatten_length];rfl
 rw [hlen]at hq
 exact slen_ev a1 hq
theorem check1_ev (C:CSt h s O D) {t:TxV} {sv v:AVal} {kd:Int} {x:IdT} {n A:Nat} {tx:Str} (hs:Sl (cfgR ro) h 7 sv [opC kd x n tx v 0]) (hk:kd < 4)
 (hfit:∀Q:AVal→AHeap→Prop,(∀h',Old h h'→Q (.int .i64 0) h')→Ev (cfgR ro) 88 [txA t sv] h Q)
 (hkn:lookI D.deeds t.id=none)
 (hA:∀h',Old h h'→∀Q:AVal→AHeap→Prop,Q (.int .i64 (A:Nat)) h'→Ev (cfgR ro) 17 [opA kd x n tx v 0] h' Q)
 (hanc:0 < A→∀h',Old h h'→∀Q:AVal→AHeap→Prop,(∀h2,Old h' h2→Q (.bool true) h2)→Ev (cfgR ro) 89 [.ptr s 0,txA t sv,opA kd x n tx v 0,.agg [.int .u16 t.r,.int .u32 0,.int .u32 0]] h' Q)
 (hknow:∀h',Old h h'→∀Q:AVal→AHeap→Prop,(∀h2,Old h' h2→Q (.bool true) h2)→Ev (cfgR ro) 90 [.ptr s 0,v,.nils] h' Q)
 (hfree:∀h',Old h h'→∀Q:AVal→AHeap→Prop,Q (.bool true) h'→Ev (cfgR ro) 91 [.ptr s 0,txA t sv,opA kd x n tx v 0] h' Q)
 (hlen:D.A.length+A≤65536) (hb:n+A < 2 ^ 32) {Q:AVal→AHeap→Prop} (hq:∀h',Old h h'→Q (.int .i64 0) h'):Ev (cfgR ro) 42 [.ptr s 0,txA t sv] h Q:=by
 refine Ev.wp rfl rfl Tryz.func42 rfl ?_
 have hid:=fun(h':AHeap) (K:AVal→AHeap→Prop) (hK:K (idA t.r t.seq) h')=>txid_ev (ro:=ro) (h:=h') (t:=t) (v:=sv) hK
 have hun:=fun(h':AHeap) (o:Old h h') (K:AVal→AHeap→Prop) (hK:K (.tuple [.agg [.int .u16 0,.int .u32 0],.bool false]) h')=>tundo_ev (ro:=ro) (h:=h') (t:=t) (hs.old o) hk hK
 have hta:=fun(h':AHeap) (o:Old h h') (K:AVal→AHeap→Prop) (hK:K (.int .i64 (A:Nat)) h')=>tatoms_ev (ro:=ro) (h:=h') (t:=t) (hs.old o) (hA h' o) (by omega) hK
 simp only [txA,opA]at hfit hA hanc hfree hid hun hta ⊢
 simp -implicitDefEqProofs [Tryz.f42]
 refine hfit _ (fun h1 o1=>?_)
 simp -implicitDefEqProofs [same_self]
 refine hid _ _ ?_
 simp -implicitDefEqProofs [same_self]
 refine knows_ev (C.old o1) (k:=(t.r,t.seq)) ?_
 rw [show lookI D.deeds (t.r,t.seq)=none from hkn]
 simp -implicitDefEqProofs [same_self]
 refine hun _ o1 _ ?_
 have hL:lenR (cfgR ro) h1 48 sv=.ok (.int .i64 1):=(hs.old o1).lenR (t:=48) un48
 have hX:indexAddrR Tryz.prog 48 sv (.int .i64 0)=.ok (elp sv 7 0):=hs.idx (i:=0) un48 sz58 (by simp)
 have hl:loadR (cfgR ro) h1 58 (elp sv 7 0)=.ok (.agg (opC kd x n tx v 0)):=(hs.old o1).load (i:=0) rfl ag58 sz58
 simp -implicitDefEqProofs [same_self,hL]
 obtain⟨I,hI⟩:∃I:Nat→List AVal→AHeap→Prop,I=fun m env h'=>Old h1 h'∧∃(i a b:Nat) (mv:AVal),i+m=1∧(i=0→a=0∧b=0∧mv=.nils∧h'=h1)∧env=(.ptr s 0 :: .dead :: .dead :: .cell [.int .u16 t.r,.int .u32 t.seq,.int .u64 t.clock,.int .i64 t.user,sv] :: .dead :: .dead :: .dead :: .dead :: .cell [.int .u16 t.r,.int .u32 a,.int .u32 b] :: mv :: .dead :: .dead :: .dead :: .dead :: .dead :: .dead :: .dead :: .dead :: .dead :: .dead :: .dead :: .dead :: .dead :: .dead :: .dead :: .dead :: .dead :: .dead :: .dead :: .dead :: .dead :: .dead :: .dead :: .dead :: .dead :: .dead :: .dead :: .dead :: .dead :: .dead :: .dead :: .dead :: sv :: .int .i64 1 :: .int .i64 (i:Nat) :: .dead :: .dead :: .dead :: .dead :: .dead :: .dead :: .dead :: .dead :: .dead :: .dead :: .dead :: .dead :: .dead :: .dead :: .dead :: .dead :: .dead :: .dead :: .dead :: .dead :: .dead :: .dead :: .dead :: .dead :: .dead :: .dead :: .dead :: .dead :: .dead :: .dead :: .dead :: .dead :: .dead :: .dead :: .dead :: .dead :: .dead :: .dead :: .dead :: .dead :: .dead :: .dead :: .dead :: .dead :: .dead :: .dead :: .dead :: .dead :: .dead :: .dead :: .dead :: .dead :: .dead :: .dead :: .dead :: .dead :: .dead :: .dead :: .dead :: .dead :: .dead :: .dead :: .dead :: .dead :: []):=⟨_,rfl⟩
 refine loop_of I ?_ 1 (by rw [hI];exact⟨Old.refl h1,0,0,0,.nils,rfl,fun _=>⟨rfl,rfl,rfl,rfl⟩,rfl⟩)
 intro m env h' hi
 rw [hI]at hi
 obtain⟨o',i,a,b,mv,him,h0,rfl⟩:=hi
 rcases(show i=0∨i=1 by omega)with rfl | rfl
 · obtain⟨rfl,rfl,rfl,rfl⟩:=h0 rfl
   have w3:IntKind.i64.wrap 1=1:=by decide
   have w1:IntKind.u32.wrap (A:Int)=(A:Int):=by rw [wrap32,Int.emod_eq_of_lt (by omega) (by omega)]
   obtain⟨m1,hm1⟩:∃m1,m1=n+A:=⟨_,rfl⟩
   have w2:IntKind.u32.wrap ((n:Int)+(A:Int))=(m1:Int):=by rw [wrap32,Int.emod_eq_of_lt (by omega) (by omega)];omega
   simp -implicitDefEqProofs [hX,hl,opC]
   refine hA _ o1 _ ?_
   by_cases c:0 < A
   · simp -implicitDefEqProofs [c,same_self]
     refine hanc c _ o1 _ (fun h2 o2=>?_)
     simp -implicitDefEqProofs [same_self]
     refine hknow h2 (o1.trans o2) _ (fun h3 o3=>?_)
     simp -implicitDefEqProofs [same_self]
     refine hfree h3 ((o1.trans o2).trans o3) _ ?_
     simp -implicitDefEqProofs [c,w1,w2]
     refine orD (fun hk1=>?_) (fun hk1=>?_)
     · simp -implicitDefEqProofs [hk1,buildSliceR,reps]
       obtain⟨v',h4,e1,m4,o4⟩:=((Mine.nil h3 h3 3).keep ((Old.refl h3).push (.row 3 false [.int .u16 t.r,.int .u32 n,.int .i64 A]))).append1 (bytes:=16) (e:=[.int .u16 t.r,.int .u32 n,.int .i64 A]) (by first | omega | simp) rfl (by simp) ((Old.refl h3).push _)
       simp -implicitDefEqProofs [e1,w3]
       exact .mk (m:=m - 1) (by omega) (by rw [hI];exact⟨(o2.trans o3).trans o4,1,_,_,_,by omega,fun e=>(by cases e),rfl⟩)
     · simp -implicitDefEqProofs [hk1,w3]
       exact .mk (m:=m - 1) (by omega) (by rw [hI];exact⟨o2.trans o3,1,_,_,_,by omega,fun e=>(by cases e),rfl⟩)
   · simp -implicitDefEqProofs [c,same_self]
     refine hknow _ o1 _ (fun h3 o3=>?_)
     simp -implicitDefEqProofs [same_self]
     refine hfree h3 (o1.trans o3) _ ?_
     simp -implicitDefEqProofs [c,w1,w2]
     refine orD (fun hk1=>?_) (fun hk1=>?_)
     · simp -implicitDefEqProofs [hk1,buildSliceR,reps]
       obtain⟨v',h4,e1,m4,o4⟩:=((Mine.nil h3 h3 3).keep ((Old.refl h3).push (.row 3 false [.int .u16 t.r,.int .u32 n,.int .i64 A]))).append1 (bytes:=16) (e:=[.int .u16 t.r,.int .u32 n,.int .i64 A]) (by first | omega | simp) rfl (by simp) ((Old.refl h3).push _)
       simp -implicitDefEqProofs [e1,w3]
       exact .mk (m:=m - 1) (by omega) (by rw [hI];exact⟨(o3).trans o4,1,_,_,_,by omega,fun e=>(by cases e),rfl⟩)
     · simp -implicitDefEqProofs [hk1,w3]
       exact .mk (m:=m - 1) (by omega) (by rw [hI];exact⟨o3,1,_,_,_,by omega,fun e=>(by cases e),rfl⟩)
 · have oo:=o1.trans o'
   have w4:IntKind.i64.wrap ((D.A.length:Int)+(A:Int))=((D.A.length+A:Nat):Int):=by rw [w64 (by omega) (by omega)];omega
   have g:¬(65536:Int) < ((D.A.length+A:Nat):Int):=by omega
   obtain⟨q,hqq⟩:∃q,q=D.A.length+A:=⟨_,rfl⟩
   rw [←hqq]at w4 g
   have g':¬65536 < q:=by omega
   simp -implicitDefEqProofs [same_self]
   refine cslen_ev (C.old oo) ?_
   simp -implicitDefEqProofs [same_self]
   refine hta _ oo _ ?_
   simp -implicitDefEqProofs [same_self,w4,g,g']
   exact hq _ oo
end
end Go.Proofs.YtlhlbamcgopiiaaGreatDoor
set_option linter.all false
set_option maxRecDepth 100000
set_option maxHeartbeats 4000000
namespace Go.Proofs.YtlhlbamcgopiiaaGreatDoor
open Go Go.RowKit Go.Proofs
section
variable {ro:Nat→Option (List AVal)} {h:AHeap} {s:Nat} {D:CV} {O:Nat→Prop}
theorem apply1_ev (C:CSt h s O D) {t:TxV} {sv v:AVal} {kd:Int} {x:IdT} {n:Nat} {tx:Str} (hs:Sl (cfgR ro) h 7 sv [opC kd x n tx v 0]) (hk:kd < 4) (hkn:lookI D.deeds t.id=none)
 (hchk:∀Q:AVal→AHeap→Prop,(∀h',Old h h'→Q (.int .i64 0) h')→Ev (cfgR ro) 42 [.ptr s 0,txA t sv] h Q)
 (hsl:∀h1 h2 O2,Old h h1→Stp h1 O h2 O2→Sl (cfgR ro) h2 7 sv [opC kd x n tx v 0]) {P:CV→Prop}
 (hop:∀h1 h2 O2,Old h h1→CSt h2 s O2 (beginD D t.id false t.clock)→Stp h1 O h2 O2→∀K:AVal→AHeap→Prop,(∀h3 O3 D3,CSt h3 s O3 D3→Stp h2 O2 h3 O3→P D3→K (.tuple []) h3)→Ev (cfgR ro) 16 [.ptr s 0,txA t sv,opA kd x n tx v 0] h2 K)
 {Q:AVal→AHeap→Prop} (hq:∀h1 h3 O3 D3,Old h h1→CSt h3 s O3 D3→Stp h1 O h3 O3→P D3→Q (.int .i64 0) h3):Ev (cfgR ro) 31 [.ptr s 0,txA t sv] h Q:=by
 refine Ev.wp rfl rfl Tryz.func31 rfl ?_
 have hun:=fun(h':AHeap) (o:Old h h') (K:AVal→AHeap→Prop) (hK:K (.tuple [.agg [.int .u16 0,.int .u32 0],.bool false]) h')=>tundo_ev (ro:=ro) (h:=h') (t:=t) (hs.old o) hk hK
 have hbeg:=fun(h1:AHeap) (o:Old h h1) (K:AVal→AHeap→Prop)=>begin_ev (ro:=ro) (C.old o) (t:=t) (v:=sv) (u:=false) hkn (fun K hK=>hun h1 o K (hK 0 0)) (Q:=K)
 simp only [txA,opA]at hchk hop hbeg ⊢
 simp -implicitDefEqProofs [Tryz.f31]
 refine hchk _ (fun h1 o1=>?_)
 simp -implicitDefEqProofs [same_self]
 refine hbeg h1 o1 _ (fun h2 O2 C2 P2=>?_)
 have hs2:=hsl h1 h2 O2 o1 P2
 have hL:lenR (cfgR ro) h2 48 sv=.ok (.int .i64 1):=hs2.lenR (t:=48) un48
 have hX:indexAddrR Tryz.prog 48 sv (.int .i64 0)=.ok (elp sv 7 0):=hs.idx (i:=0) un48 sz58 (by simp)
 have hl:loadR (cfgR ro) h2 58 (elp sv 7 0)=.ok (.agg (opC kd x n tx v 0)):=hs2.load (i:=0) rfl ag58 sz58
 have w3:IntKind.i64.wrap 1=1:=by decide
 simp -implicitDefEqProofs [hL]
 obtain⟨I,hI⟩:∃I:Nat→List AVal→AHeap→Prop,I=fun m env h'=>∃i:Nat,i+m=1∧(i=0→h'=h2)∧(i=1→∃O3 D3,CSt h' s O3 D3∧Stp h2 O2 h' O3∧P D3)∧env=(.ptr s 0 :: .dead :: .dead :: .cell [.int .u16 t.r,.int .u32 t.seq,.int .u64 t.clock,.int .i64 t.user,sv] :: .dead :: .dead :: .dead :: .dead :: .dead :: .dead :: .dead :: .dead :: .dead :: .dead :: .dead :: .dead :: .dead :: .dead :: sv :: .int .i64 1 :: .int .i64 (i:Nat) :: .dead :: .dead :: .dead :: .dead :: .dead :: .dead :: .dead :: .dead :: []):=⟨_,rfl⟩
 refine loop_of I ?_ 1 (by rw [hI];exact⟨0,rfl,fun _=>rfl,fun e=>(by cases e),rfl⟩)
 intro m env h' hi
 rw [hI]at hi
 obtain⟨i,him,h0,h1',rfl⟩:=hi
 rcases(show i=0∨i=1 by omega)with rfl | rfl
 · obtain rfl:=h0 rfl
   simp -implicitDefEqProofs [hX,hl,opC]
   refine hop h1 _ O2 o1 C2 P2 _ (fun h3 O3 D3 C3 P3 hP=>?_)
   simp -implicitDefEqProofs [w3]
   exact .mk (m:=m - 1) (by omega) (by rw [hI];exact⟨1,by omega,fun e=>(by cases e),fun _=>⟨O3,D3,C3,P3,hP⟩,rfl⟩)
 · obtain⟨O3,D3,C3,P3,hP⟩:=h1' rfl
   simp -implicitDefEqProofs
   exact hq h1 h' O3 D3 o1 C3 (P2.trans P3) hP
end
end Go.Proofs.YtlhlbamcgopiiaaGreatDoor
set_option linter.all false
set_option maxRecDepth 100000
set_option maxHeartbeats 4000000
namespace Go.Proofs.YtlhlbamcgopiiaaGreatDoor
open Go Go.RowKit Go.Proofs
theorem idsOf_drop {M:List Sn} {i:Nat} {a b:Sn} (ha:M[i]?=some a) (hb:M[i+1]?=some b):M=M.take i++(a :: b :: M.drop (i+2)):=by
 obtain⟨h1,rfl⟩:=List.getElem?_eq_some_iff.1 ha
 obtain⟨h2,rfl⟩:=List.getElem?_eq_some_iff.1 hb
 rw [←List.drop_eq_getElem_cons h2,←List.drop_eq_getElem_cons h1,List.take_append_drop]
theorem apart_of {M:List Sn} (hnd:(idsOf M).Nodup) (hp:∀s∈M,1≤s.2) (hsort:∀i a b,M[i]?=some a→M[i+1]?=some b→a.1.1=b.1.1→a.1.2≤b.1.2):∀i a b,M[i]?=some a→M[i+1]?=some b→a.1.1=b.1.1→a.1.2+a.2≤b.1.2:=by
 intro i a b ha hb he
 rcases Nat.lt_or_ge b.1.2 (a.1.2+a.2)with hlt | hge
 · exfalso
   have hle:=hsort i a b ha hb he
   have hM:=idsOf_drop ha hb
   rw [hM]at hnd
   have hb1:=hp b (List.mem_of_getElem? hb)
   simp only [idsOf,List.map_append,List.map_cons,List.flatten_append,List.flatten_cons]at hnd
   have h1:=(List.nodup_append.1 hnd).2.1
   have h2:=(List.nodup_append.1 h1).2.2
   have m1:b.1∈(List.range a.2).map (plusI a.1):=by
    refine List.mem_map.2 ⟨b.1.2 - a.1.2,List.mem_range.2 (by omega),?_⟩
    unfold plusI
    exact Prod.ext he (by simp only;omega)
   have m2:b.1∈(List.range b.2).map (plusI b.1):=List.mem_map.2 ⟨0,List.mem_range.2 (by omega),rfl⟩
   exact h2 _ m1 _ (List.mem_append.2 (.inl m2)) rfl
 · exact hge
end Go.Proofs.YtlhlbamcgopiiaaGreatDoor
set_option linter.all false
set_option maxRecDepth 100000
set_option maxHeartbeats 4000000
namespace Go.Proofs.YtlhlbamcgopiiaaGreatDoor
open Go Go.RowKit Go.Proofs
section
variable {P Pn:IdT→Prop} {N K T:Nat} {D:CV}
theorem free_of (I:PI P Pn N K T D) (i:Nat):atIx D.A 1 (N+i)=none:=by
 unfold atIx
 rw [List.findIdx?_eq_none_iff]
 intro a ha
 have:=(I.at_ a ha).2.1
 simp only [decide_eq_false_iff_not]
 omega
theorem anchors_of (I:PI P Pn N K T D) {c:Nat} (hc:K≤c) {a:AtV} (ha:a∈D.A):klt a.key (c,1,N):=by
 obtain⟨h1,h2,h3,_⟩:=I.at_ a ha
 unfold klt AtV.key
 simp only
 omega
end
end Go.Proofs.YtlhlbamcgopiiaaGreatDoor
set_option linter.all false
set_option maxRecDepth 100000
set_option maxHeartbeats 4000000
namespace Go.Proofs.YtlhlbamcgopiiaaGreatDoor
open Go Go.RowKit Go.Proofs Go.Sort
def triS (s:Sn):Int×Int×Int:=(s.1.1,s.1.2,s.2)
def toS (x:Int×Int×Int):Sn:=((x.1.toNat,x.2.1.toNat),x.2.2.toNat)
theorem toS_tri (s:Sn):toS (triS s)=s:=by simp [toS,triS]
theorem tri_c (s:Sn):snc s=aS (triS s):=rfl
theorem srtS_ok (L:List Sn):∃M:List Sn,srt (L.map triS)=M.map triS∧M.Perm L∧∀i a b,M[i]?=some a→M[i+1]?=some b→a.1.1=b.1.1→a.1.2≤b.1.2:=by
 have hp:=srt_perm (L.map triS)
 have hs:=(srt_ok (L.map triS)).2
 have hsz:=srt_size (L.map triS)
 have hdef:srt (L.map triS)=(pdq (ltOf cmpS) (L.map triS).toArray 0 (L.map triS).length (Lib.bitLen (L.map triS).length) true true).toList:=rfl
 generalize pdq (ltOf cmpS) (L.map triS).toArray 0 (L.map triS).length (Lib.bitLen (L.map triS).length) true true=d at hs hsz hdef
 rw [hdef]at hp ⊢
 have hmap:(d.toList.map toS).map triS=d.toList:=by
  rw [List.map_map]
  conv=>rhs;rw [←List.map_id d.toList]
  refine List.map_congr_left fun x hx=>?_
  obtain⟨y,_,rfl⟩:=List.mem_map.1 (hp.mem_iff.1 hx)
  simp [toS_tri]
 refine⟨d.toList.map toS,hmap.symm,?_,?_⟩
 · have:=hp.map toS
   rw [List.map_map]at this
   have e:(toS ∘ triS)=id:=funext toS_tri
   rwa [e,List.map_id]at this
 · have hg:∀i a,(d.toList.map toS)[i]?=some a→d[i]! =triS a∧i < d.size:=fun i a ha=>by
    have h1:((d.toList.map toS).map triS)[i]?=some (triS a):=by rw [List.getElem?_map,ha];rfl
    rw [hmap]at h1
    obtain⟨h2,h3⟩:=List.getElem?_eq_some_iff.1 h1
    have h4:i < d.size:=by simpa using h2
    refine⟨?_,h4⟩
    rw [getElem!_pos d i h4,←h3]
    simp
   intro i a b ha hb he
   obtain⟨a1,a2⟩:=hg i a ha
   obtain⟨b1,b2⟩:=hg (i+1) b hb
   have:=hs i (i+1) (Nat.zero_le _) (Nat.lt_succ_self _) (by rw [←hsz];exact b2)
   rw [a1,b1,ltS]at this
   have h5:=of_decide_eq_false this
   simp only [triS]at h5
   omega
section
variable {ro:Nat→Option (List AVal)} {h:AHeap}
theorem sorted_ev {h0:AHeap} {v:AVal} {L M:List Sn} (hm:Mine h0 h 3 (L.map snc) v) (h1:0 < L.length) (h2:L.length < 2 ^ 40) (hM:srt (L.map triS)=M.map triS) {Q:AVal→AHeap→Prop} (hq:∀v' h',Old h h'→Mine h h' 3 (M.map snc) v'→Q v' h'):Ev (cfgR ro) 180 [v] h Q:=by
 obtain⟨_,⟨e,rfl⟩ | ⟨q,fz,rfl,g1,g2,g3⟩⟩:=hm
 · rw [List.map_eq_nil_iff]at e
   rw [e]at h1;cases h1
 · have hfl:∀K:List Sn,(K.map snc).flatten=(K.map triS).flatMap aS:=fun K=>by
    induction K with
    | nil=>rfl
    | cons x K ih=>simp only [List.map_cons,List.flatten_cons,List.flatMap_cons,ih,tri_c]
   have hln:M.length=L.length:=by
    have:=congrArg List.length hM
    rw [srt_len,List.length_map,List.length_map]at this
    exact this.symm
   have hr:sRow (((L.map snc).flatten.drop 0).take ((L.map snc).length * 3))=some (L.map triS):=by
    rw [hfl,List.drop_zero,List.take_of_length_le (by rw [fm_len];simp),sRow_of]
   refine Ev.prim (g:=sortedP) (v:=.sl h.next 0 (L.map snc).length) (h':=h.push (.row 3 false ((srt (L.map triS)).flatMap aS))) rfl ?_ ?_
   · show sortedC h q 0 (L.map snc).length=_
     unfold sortedC
     rw [g3]
     simp only
     rw [hr]
     simp only
     rw [if_pos ⟨by simp,by simpa using h1,by simpa using h2⟩]
   · refine hq _ _ ((Old.refl h).push _) ⟨fun e he=>?_,.inr ⟨h.next,false,?_,Nat.le_refl _,by simp,?_⟩⟩
     · obtain⟨x,_,rfl⟩:=List.mem_map.1 he;rfl
     · rw [List.length_map,List.length_map,hln]
     · rw [get_push_next,hM,hfl]
end
end Go.Proofs.YtlhlbamcgopiiaaGreatDoor
set_option linter.all false
set_option maxRecDepth 100000
set_option maxHeartbeats 4000000
namespace Go.Proofs.YtlhlbamcgopiiaaGreatDoor
open Go Go.RowKit Go.Proofs
structure Pln (ro:Nat→Option (List AVal)) (h:AHeap) (s:Nat) (O:Nat→Prop) (D:CV) (N T:Nat) (t:TxV) (e:Ed) (kd:Int) (x:IdT) (n:Nat) (tx:Str) (v:AVal) (bn:Nat):Prop where
 lt4:kd < 4
 nb:n+bn < 2 ^ 20
 at_:∀h2,Old h h2→∀Q:AVal→AHeap→Prop,Q (.int .i64 (bn:Nat)) h2→Ev (cfgR ro) 17 [opA kd x n tx v 0] h2 Q
 fit:∀h2,Old h h2→∀Q:AVal→AHeap→Prop,(∀h3,Old h2 h3→Q (.int .i64 0) h3)→Ev (cfgR ro) 46 [opA kd x n tx v 0] h2 Q
 anc:0 < bn→(x=(0,0)∨∃a∈D.A,a.id=x∧klt a.key (t.clock,t.r,n))∧x.2 < 2 ^ 32
 knw:∀h2,Old h h2→∀Q:AVal→AHeap→Prop,(∀h3,Old h2 h3→Q (.bool true) h3)→Ev (cfgR ro) 90 [.ptr s 0,v,.nils] h2 Q
 fre:∀i,i < bn→atIx D.A t.r (n+i)=none
 op:∀sv h2 h3 O3,Old h h2→CSt h3 s O3 (beginD D t.id false t.clock)→Stp h2 O h3 O3→∀K:AVal→AHeap→Prop,(∀h4 O4 D4,CSt h4 s O4 D4→Stp h3 O3 h4 O4→EdR (beginD D t.id false t.clock) D4 N t.clock T bn e→K (.tuple []) h4)→Ev (cfgR ro) 16 [.ptr s 0,txA t sv,opA kd x n tx v 0] h3 K
theorem anc_at {N K T:Nat} {D:CV} (I:PF N K T D) {i p:Nat} (hp:posA D.A (ancP D.A i).1 (ancP D.A i).2=some p):ancP D.A i=(0,0)∨∃a∈D.A,a.id=ancP D.A i:=by
 unfold posA at hp
 split at hp
 · rename_i h;exact .inl (Prod.ext h.1 h.2)
 · rw [Option.map_eq_some_iff]at hp
   obtain⟨j,j1,_⟩:=hp
   unfold atIx at j1
   rw [List.findIdx?_eq_some_iff_getElem]at j1
   obtain⟨h1,h2,_⟩:=j1
   refine .inr ⟨_,List.getElem_mem h1,?_⟩
   simp only [decide_eq_true_eq]at h2
   exact Prod.ext h2.1 h2.2
theorem anc_fit {N K T:Nat} {D:CV} (I:PF N K T D) (hN:N≤65536) {x:IdT} (hx:x=(0,0)∨∃a∈D.A,a.id=x):((x.1=0∧x.2=0)∨(1≤x.2∧x.2≤268435456))∧x.2 < 2 ^ 32:=by
 rcases hx with rfl | ⟨a,ha,rfl⟩
 · exact⟨.inl ⟨rfl,rfl⟩,by decide⟩
 · have h1:=I.ci.n1 a ha
   have h2:=(I.at_ a ha).2.1
   have:a.id.2=a.n:=rfl
   exact⟨.inr ⟨by omega,by omega⟩,by omega⟩
theorem anc_klt {N K T:Nat} {D:CV} (I:PF N K T D) {x:IdT} {c:Nat} (hc:K≤c) (hx:x=(0,0)∨∃a∈D.A,a.id=x):x=(0,0)∨∃a∈D.A,a.id=x∧klt a.key (c,1,N):=
 hx.imp id fun⟨a,ha,e⟩=>⟨a,ha,e,anchors_of I hc ha⟩
section
variable {ro:Nat→Option (List AVal)} {h:AHeap} {s:Nat} {D:CV} {O:Nat→Prop} {N K T:Nat}
theorem ofIds_snok {l:List IdT} (hn:∀x∈l,1≤x.2∧x.2 < 2 ^ 20) (hl:l.length≤1024):∀z∈ofIds l,1≤z.1.2∧1≤z.2∧z.2≤1024∧z.1.2+z.2≤268435457:=by
 intro z hz
 have ok:=ofIds_ok l
 have h1:=ok.pos z hz
 have h2:=hn _ h1.2.2
 have h3:z.2≤totS (ofIds l):=by
  have:∀L:List Sn,z∈L→z.2≤totS L:=by
   intro L
   induction L with
   | nil=>intro h;cases h
   | cons y L ih=>
    intro h
    have e:totS (y :: L)=y.2+totS L:=by simp [totS]
    rw [e]
    rcases List.mem_cons.1 h with rfl | h
    · omega
    · have:=ih h;omega
  exact this _ hz
 have h4:totS (ofIds l)=l.length:=by rw [←totS_ids,ok.ids]
 exact⟨h2.1,h1.1,by omega,by omega⟩
theorem own_fit {h0:AHeap} {v:AVal} {l:List IdT} (hm:Mine h0 h 3 ((ofIds l).map snc) v) (hl0:0 < l.length) (hl:l.length≤1024) (hn:∀x∈l,1≤x.2∧x.2 < 2 ^ 20) (hnd:l.Nodup) {Q:AVal→AHeap→Prop} (hq:∀h',Old h h'→Q (.int .i64 0) h'):Ev (cfgR ro) 98 [v] h Q:=by
 have ok:=ofIds_ok l
 have hsn:=ofIds_snok hn hl
 have hlen:=ok.len
 have htot:totS (ofIds l)=l.length:=by rw [←totS_ids,ok.ids]
 have hp:0 < (ofIds l).length:=by
  rcases Nat.eq_zero_or_pos (ofIds l).length with e | e
  · rw [List.length_eq_zero_iff.1 e]at htot
    simp [totS]at htot
    omega
  · exact e
 refine sfit_ev hm.sl hp (by omega) hsn (by omega) (fun Q1 hQ1=>?_) hq
 obtain⟨M,hM1,hM2,hM3⟩:=srtS_ok (ofIds l)
 refine apart_ev (M:=M) (fun Q2 hQ2=>sorted_ev hm (by omega) (by omega) hM1 hQ2) ?_ (fun z hz=>?_) ?_ hQ1
 · refine apart_of ?_ (fun z hz=>(hsn z (hM2.mem_iff.1 hz)).2.1) hM3
   have:(idsOf M).Perm (idsOf (ofIds l)):=by unfold idsOf;exact(hM2.map _).flatten
   rw [ok.ids]at this
   exact this.nodup_iff.2 hnd
 · have:=hsn z (hM2.mem_iff.1 hz)
   omega
 · rw [hM2.length_eq];omega
theorem known_nil_ev (C:CSt h s O D) {Q:AVal→AHeap→Prop} (hq:∀h',Old h h'→Q (.bool true) h'):Ev (cfgR ro) 90 [.ptr s 0,.nils,.nils] h Q:=
 cknown_ev C (L:=[]) Sl.nil (by simp) (fun s hs=>by cases hs) (by simp [idsOf]) (fun a ha=>by simp [idsOf]at ha) hq
theorem plan_ev (hro:ro 0=some [.int .u16 0,.int .u32 0]) (C:CSt h s O D) (I0:PF N K T D) {t:TxV} {e:Ed} {a b:Int} (hr:t.r=1) (hK:K≤t.clock) (hN:1≤N) (hlN:D.A.length+1=N) (hc:chk e (shownA D.A).length=(a,b,0)) (hB:N+1024≤65536) (hT:T+1024 < 2 ^ 27) {Q:AVal→AHeap→Prop}
 (hq:∀kd x n' tx sv h1 (bn:Nat),b=bn→bn≤1024→Old h h1→Pln ro h1 s O D N T t e kd x n' tx sv bn→Q (opA kd x n' tx sv 0) h1):
 Ev (cfgR ro) 15 [.ptr s 0,.agg e.cells,.int .u32 N] h Q:=by
 have hsl:(shownA D.A).length=(shL D.A).length:=(shL_len _).symm
 have hAl:(shL D.A).length≤D.A.length:=List.length_filter_le _ _
 obtain⟨D',hD'⟩:∃D',D'=beginD D t.id false t.clock:=⟨_,rfl⟩
 have hA':D'.A=D.A:=by rw [hD'];rfl
 have hel':D'.elems=D.elems:=by rw [hD'];rfl
 have hlv':D'.lives=D.lives:=by rw [hD'];rfl
 have I:PF N K T D':=by rw [hD'];exact I0.begin t.id false t.clock
 have hd:∃d,lookI D'.deeds t.id=some d:=⟨⟨0,[],false⟩,by rw [hD'];show lookI (putI D.deeds t.id _) t.id=_;rw [look_put,if_pos rfl]⟩
 have hid:∀i to,∀x∈elemsP D.A i to,1≤x.2∧x.2 < 2 ^ 20:=fun i to x hx=>by
  unfold elemsP at hx
  obtain⟨y,hy,rfl⟩:=List.mem_map.1 hx
  have hy':y∈D.A:=(List.mem_filter.1 (List.mem_of_mem_drop (List.mem_of_mem_take hy))).1
  have:=I0.at_ y hy'
  simp only
  omega
 have hkn:∀i to,∀x∈elemsP D.A i to,(lookI D.lives x).isSome=true:=fun i to x hx=>by
  rw [←hA']at hx
  have:=(I.mve (Nat.le_refl K) hx).lv
  rw [hlv']at this
  exact Option.isSome_iff_ne_none.2 this
 have hndE:∀i to,(elemsP D.A i to).Nodup:=fun i to=>I0.elemsP_nd i to
 obtain⟨_,hcase⟩:=chk_ok hc
 rcases hcase with ⟨i,e1,e2,e3,e4,e5,e6,e7⟩ | ⟨i,to,e1,e2,e3,e4,e5,e6,e7,e8⟩ | ⟨i,to,dd,e1,e2,e3,e8,e4,e5,e6,e9,e10,e7⟩
 · refine make_ins_ev C e1 e2 (by omega) (by omega) (fun h1 o1=>hq _ _ _ _ _ h1 e.text.length e7 (by omega) o1 ?_)
   obtain⟨p0,q1,_⟩:=I0.anc (i:=i) (by omega)
   have hx:=anc_at I0 q1
   have hxf:=anc_fit I0 (by omega) hx
   refine⟨by decide,by omega,fun h2 o2 Q hQ=>atoms1_ev hQ,fun h2 o2 Q hQ=>fit1_ev hro hxf.1 hN e5 e6 e4 (by omega) hQ,fun _=>⟨by rw [hr];exact anc_klt I0 hK hx,hxf.2⟩,fun h2 o2 Q hQ=>known_nil_ev (C.old (o1.trans o2)) hQ,fun j _=>by rw [hr];exact free_of I0 j,fun sv h2 h3 O3 o2 C3 P3 K1 hK1=>?_⟩
   rw [←hD']at C3 hK1
   obtain⟨⟨p,p1⟩,p2,p3,p4,p5,p6,p7,p8,p9⟩:=I.insert (i:=i) hr hK hN e4 e5 (by omega) (by omega) (by omega) (by rw [hA'];omega) hd
   rw [hA']at p1 p2 p4 p7 p9
   refine op_ins_ev hro C3 p2 p3 e4 (by rw [hA'];exact p1) (by rw [hA'];exact p4) (by rw [hA'];omega) p5 (fun h4 O4 C4 P4=>hK1 h4 O4 _ C4 P4 ?_)
   rw [hA']at p6 p8
   refine⟨p6.monoT (by omega),?_,by rw [hA'];exact p9,by rw [p8];exact Nat.le_refl _,dom_insD _ _ _ _ _⟩
   rw [p7,hA']
   unfold doS
   simp only [e1,e2,if_true,Int.toNat_natCast]
 · have hid2:∀x∈elemsP D.A i to,x.2 < 2 ^ 30:=fun x hx=>by have:=hid i to x hx;omega
   have hel:=elemsP_len (A:=D.A) (a:=i) (b:=to) (by omega) (by omega)
   have ok:=ofIds_ok (elemsP D.A i to)
   have hids:=ok.ids
   refine make_del_ev C e1 e2 e3 (by omega) (by omega) (by omega) (by omega) hid2 (fun v' h1 o1 m1=>hq _ _ _ _ _ h1 0 e7 (by omega) o1 ?_)
   refine⟨by decide,by omega,fun h2 o2 Q hQ=>atoms2_ev hQ,fun h2 o2 Q hQ=>fit2_ev hro (fun Q1 hQ1=>own_fit (m1.keep o2) (by omega) (by omega) (hid i to) (hndE i to) hQ1) hQ,fun hb=>by omega,fun h2 o2 Q hQ=>cknown_ev (C.old (o1.trans o2)) (m1.keep o2).sl (by have:=ok.len;omega) (fun z hz=>by have:=ok.pos z hz;have:=hid i to _ this.2.2;have:=ofIds_snok (hid i to) (by omega) z hz;omega) (by rw [hids,hel];omega) (by rw [hids];exact hkn i to) hQ,fun j hj=>by omega,fun sv h2 h3 O3 o2 C3 P3 K1 hK1=>?_⟩
   rw [←hD']at C3 hK1
   have hD:=del_run (N:=N) (K:=K) (D:=D') (k:=t.id) (by omega) (elemsP D'.A i to) D' T [] I ⟨rfl,fun _=>rfl,fun _ _=>rfl,fun e he=>(by cases he),hd,rfl⟩ (fun e he=>(I.mve (Nat.le_refl K) he).lv) (by rw [hA',hel];omega)
   obtain⟨d1,d2,d3⟩:=hD
   have hm3:Mine h h3 3 ((ofIds (elemsP D.A i to)).map snc) v':=(m1.keep o2).keepO (fun o ho=>P3.keep o ((m1.keep o2).obj o ho).2 (fun hO=>by have:=C.lt o hO;have:=(m1.obj o ho).1;omega)) P3.nx
   refine op_del_ev C3 (l:=ofIds (elemsP D.A i to)) (by have:=ok.len;omega) (fun z hz=>by have:=ofIds_snok (hid i to) (by omega) z hz;omega) (by rw [hids,hel];omega) hm3.sl (by rw [hids,←hA'];exact d1) (fun h4 O4 C4 P4=>?_)
   rw [hids,←hA']at C4
   have hAeq:(delL D' t.id (elemsP D'.A i to)).A.length=D'.A.length:=by
    have:=congrArg List.length d3.A
    simpa using this
   refine hK1 h4 O4 _ C4 P4 ⟨(d2.monoK hK).monoT (by rw [hA',hel];omega),?_,by rw [hAeq];rfl,by rw [d3.el];exact Nat.le_refl _,dom_delL _ _ _⟩
   rw [del_text I d2 d3,List.nil_append,cut_text I (by omega) (by rw [hA'];omega)]
   unfold doS
   simp only [e1,e2,e3,Int.toNat_natCast]
   rfl
 · have hid2:∀x∈elemsP D.A i to,x.2 < 2 ^ 30:=fun x hx=>by have:=hid i to x hx;omega
   have hel:=elemsP_len (A:=D.A) (a:=i) (b:=to) (by omega) (by omega)
   have ok:=ofIds_ok (elemsP D.A i to)
   have hids:=ok.ids
   have htot:totS (ofIds (elemsP D.A i to))=to - i:=by rw [←totS_ids,hids,hel]
   refine make_mov_ev C e1 e8 (by omega) (by omega) e2 e3 (by omega) (by omega) (by omega) (by omega) hid2 (fun v' h1 o1 m1=>hq _ _ _ _ _ h1 (to - i) e7 (by omega) o1 ?_)
   obtain⟨p0,q1,_⟩:=I0.anc (i:=dd) (by omega)
   have hx:=anc_at I0 q1
   have hxf:=anc_fit I0 (by omega) hx
   have hat:∀h2,Old h1 h2→∀Q:AVal→AHeap→Prop,Q (.int .i64 (to - i:Nat)) h2→Ev (cfgR ro) 17 [opA 3 (ancP D.A dd) N [] v' 0] h2 Q:=fun h2 o2 Q hQ=>atoms3_ev (m1.keep o2).sl (by have:=ok.len;omega) (by rw [htot];omega) (by rw [htot];exact hQ)
   refine⟨by decide,by omega,hat,fun h2 o2 Q hQ=>fit3_ev hro (fun h3 o3=>hat h3 (o2.trans o3)) hxf.1 hN (by omega) (fun Q1 hQ1=>own_fit (m1.keep o2) (by omega) (by omega) (hid i to) (hndE i to) hQ1) hQ,fun _=>⟨by rw [hr];exact anc_klt I0 hK hx,hxf.2⟩,fun h2 o2 Q hQ=>cknown_ev (C.old (o1.trans o2)) (m1.keep o2).sl (by have:=ok.len;omega) (fun z hz=>by have:=ofIds_snok (hid i to) (by omega) z hz;omega) (by rw [hids,hel];omega) (by rw [hids];exact hkn i to) hQ,fun j _=>by rw [hr];exact free_of I0 j,fun sv h2 h3 O3 o2 C3 P3 K1 hK1=>?_⟩
   rw [←hD']at C3 hK1
   obtain⟨p,p1,p2,p3,p4⟩:=I.anc (i:=dd) (by rw [hA'];omega)
   have hpl:p≤D'.A.length:=by
    unfold posA at p1
    split at p1
    · cases p1;omega
    · rw [Option.map_eq_some_iff]at p1
      obtain⟨j,j1,rfl⟩:=p1
      have:=atIx_lt j1;omega
   have hR0:MovR D' D' t.id t.clock N p [] []:=⟨by simp [newL],fun _=>rfl,fun _ _=>rfl,fun i e he=>(by simp at he),hd,rfl⟩
   obtain⟨a1,a2,a3⟩:=mov_run (t:=t) (n0:=N) (p0:=p) hr hN hpl I.ci.nd (ofIds (elemsP D'.A i to)) D' T K [] (ancP D'.A dd) (by rw [List.length_nil,Nat.add_zero];exact I) hK hR0 (by rw [List.length_nil,Nat.add_zero];exact p1) (by omega) (fun z hz=>by rw [hA']at hz;have:=ok.pos z hz;omega) (by rw [hA',List.nil_append,hids,←hA'];exact I.elemsP_nd i to) (by rw [hA',hids,←hA'];exact fun e he=>I.mve hK he) (by rw [hA',htot,List.length_nil];omega) (by rw [hA',htot];omega)
   rw [hA',List.nil_append,hids,hel,htot]at a2
   rw [hA',List.nil_append,hids]at a3
   rw [hA',List.length_nil,Nat.add_zero]at a1
   rw [List.length_nil,Nat.add_zero]at a2 a3
   have hmk:∀h' O',Stp h3 O3 h' O'→Mine h h' 3 ((ofIds (elemsP D.A i to)).map snc) v':=fun h' O' P=>(m1.keep o2).keepO (fun o ho=>(P3.trans P).keep o ((m1.keep o2).obj o ho).2 (fun hO=>by have:=C.lt o hO;have:=(m1.obj o ho).1;omega)) (P3.trans P).nx
   refine op_mov_ev hro C3 (l:=ofIds (elemsP D.A i to)) (by have:=ok.len;omega) (fun h' O' P=>(hmk h' O' P).sl) a1 (fun h4 O4 C4 P4=>?_)
   have hAl2:(movL D' t (ancP D.A dd) N (ofIds (elemsP D.A i to))).A.length=D'.A.length+(to - i):=by
    have:=congrArg List.length a3.A
    simp only [List.length_map,List.length_append,newL_len,hel,List.length_take,List.length_drop]at this
    omega
   refine hK1 h4 O4 _ C4 P4 ⟨a2.monoT (by omega),?_,hAl2,by rw [a3.el];omega,dom_movL _ _ _ _ _⟩
   have a3':=a3
   rw [←hA']at a2 a3
   rw [←hA',mov_text I a2 a3 (fun e he=>by obtain⟨x,_,rfl,_,ho⟩:=I.elem e he;exact ho.1),p2,p3,mid_bytes I,mov_text2 I e4 (by rw [hA'];omega) (by rw [hA'];omega) e10]
   unfold doS
   simp only [e1,e2,e3,e8,Int.toNat_natCast]
   rfl
end
end Go.Proofs.YtlhlbamcgopiiaaGreatDoor
set_option linter.all false
set_option maxRecDepth 100000
set_option maxHeartbeats 4000000
namespace Go.Proofs.YtlhlbamcgopiiaaGreatDoor
open Go Go.RowKit Go.Proofs
structure St22 (h0 h:AHeap) (s:Nat) (O:Nat→Prop) (D:CV) (N K T:Nat):Prop where
 C:CSt h s O D
 I:PF N K T D
 len:D.A.length+1=N
 el:D.elems≤D.A.length
 old:Old h0 h
 own:∀o,O o→h0.next≤o
theorem St22.oldH {h0 h h':AHeap} {s:Nat} {O:Nat→Prop} {D:CV} {N K T:Nat} (S:St22 h0 h s O D N K T) (o:Old h h'):St22 h0 h' s O D N K T:=⟨S.C.old o,S.I,S.len,S.el,S.old.trans o,S.own⟩
section
variable {ro:Nat→Option (List AVal)}
end
end Go.Proofs.YtlhlbamcgopiiaaGreatDoor
set_option linter.all false
set_option maxRecDepth 100000
set_option maxHeartbeats 4000000
namespace Go.Proofs.YtlhlbamcgopiiaaGreatDoor
open Go Go.RowKit Go.Proofs
section
variable {ro:Nat→Option (List AVal)}
theorem PlanOps_ev (hro:ro 0=some [.int .u16 0,.int .u32 0]) {h0:AHeap} {v1:AVal} {l:List Ed} (hv1:Eds (cfgR ro) h0 v1 l) (hn1:l.length < 2 ^ 63):Ev (cfgR ro) 8 [v1] h0 (fun x _=>x=.bool true):=by
 refine Ev.wp rfl rfl Tryz.func8 rfl ?_
 have hL1:∀h',Old h0 h'→lenR (cfgR ro) h' 22 v1=.ok (.int .i64 (l.length:Nat)):=fun h' o=>by have:=(hv1.old o).lenR (t:=22) un22;simpa using this
 simp -implicitDefEqProofs [Tryz.f8,Ev.run (run5 h0)]
 refine small6 hv1 hn1 ?_
 cases hs1:smallB l
 · simp -implicitDefEqProofs
 simp -implicitDefEqProofs
 obtain⟨ht1,hl1⟩:=smallB_iff.1 hs1
 have S0:=CSt.new h0
 obtain⟨s,hss⟩:∃s,s=h0.next:=⟨_,rfl⟩
 obtain⟨H1,hH1⟩:∃H1,H1=h0.push (.row 0 false [.nilp,.int .u64 0,.nilm,.nilm,.int .i64 0,.nilm,.nilm,.int .u64 0,.int .i64 0]):=⟨_,rfl⟩
 have o1:Old h0 H1:=by rw [hH1];exact(Old.refl h0).push _
 rw [←hH1]at S0
 rw [←hss]at S0
 have hL1':=hL1 H1 o1
 simp -implicitDefEqProofs [←hH1,←hss,hL1']
 have S2:St22 h0 H1 s (fun o=>o=s) CV.nil 1 0 0:=⟨S0,PI.new,rfl,Nat.le_refl _,o1,fun o ho=>by rw [ho,hss];exact Nat.le_refl _⟩
 have hX:∀i,i < l.length→indexAddrR Tryz.prog 22 v1 (.int .i64 (i:Int))=.ok (elp v1 5 i):=fun i hi=>hv1.idx un22 sz53 (by simpa using hi)
 have hA:∀h',Old h0 h'→∀i (hi:i < l.length),loadR (cfgR ro) h' 53 (elp v1 5 i)=.ok (.agg l[i].cells):=fun h' o i hi=>(hv1.old o).load (Eds.at hi) ag53 sz53
 obtain⟨J,hJ⟩:∃J:Nat→List AVal→AHeap→Prop,J=fun m env h3=>∃(i:Nat) (O3:Nat→Prop) (D3:CV) (N3 T3:Nat),i+m=l.length∧St22 h0 h3 s O3 D3 N3 i T3∧N3≤1+i * 1024∧1≤N3∧T3≤i * 1024∧(∀j,i < j→lookI D3.deeds (1,j)=none)∧
  env=(v1 :: .dead :: .dead :: .ptr s 0 :: .str (shownA D3.A) :: .int .u32 (N3:Nat) :: .dead :: .dead :: .dead :: .dead :: .dead :: .dead :: .dead :: .dead :: .dead :: .dead :: .dead :: v1 :: .int .i64 (l.length:Nat) :: .int .i64 (i:Nat) :: .dead :: .dead :: .dead :: .dead :: .dead :: .dead :: .dead :: .dead :: .dead :: .dead :: .dead :: .dead :: .dead :: .dead :: .dead :: .dead :: .dead :: .dead :: .dead :: .dead :: .dead :: .dead :: .dead :: .dead :: .dead :: .dead :: .dead :: .dead :: .dead :: .dead :: .dead :: .dead :: .dead :: .dead :: .dead :: .dead :: .dead :: .dead :: .dead :: .dead :: .dead :: .dead :: .dead :: .dead :: .dead :: .dead :: .dead :: .dead :: .dead :: .dead :: .dead :: .dead :: .dead :: .dead :: .dead :: .dead :: []):=⟨_,rfl⟩
 refine loop_of J ?_ l.length (by rw [hJ];exact⟨0,_,CV.nil,1,0,by omega,S2,Nat.le_refl _,Nat.le_refl _,Nat.le_refl _,fun j _=>rfl,rfl⟩)
 intro m env h3 hj
 rw [hJ]at hj
 obtain⟨i,O3,D3,N3,T3,him,S,b1,b2,b3,b4,rfl⟩:=hj
 by_cases hi:i < l.length
 rotate_left
 · simp -implicitDefEqProofs [hi]
 have hiI:(i:Int) < (l.length:Int):=by omega
 obtain⟨e,hee⟩:∃e,e=l[i]:=⟨_,rfl⟩
 have hA3:=hA h3 S.old i hi
 rw [←hee]at hA3
 have hee2:e.cells=[.int .i64 e.kind,.int .i64 e.at_,.int .i64 e.to_,.int .i64 e.dest,.str e.text]:=rfl
 have w2:IntKind.i64.wrap ((i:Int)+1)=((i+1:Nat):Int):=by rw [w64 (by omega) (by omega)];omega
 have hlen:=S.len
 have hslen:(shownA D3.A).length≤D3.A.length:=by rw [←shL_len];exact List.length_filter_le _ _
 have het:e.text.length≤300:=ht1 e (by rw [hee];exact List.getElem_mem hi)
 simp -implicitDefEqProofs [hi,hiI,hX i hi,hA3,hee2,same_self]
 refine refs7 (hv1.old S.old) (by omega) (fun x h4 o4 hx=>?_)
 have hxX:indexAddrR Tryz.prog 45 x (.int .i64 (i:Int))=.ok (elp x 5 i):=(Mine.sl (c:=cfgR ro) hx).idx un45 sz64 (by simpa using hi)
 have hxA:loadR (cfgR ro) h4 64 (elp x 5 i)=.ok (.agg e.cells):=by have:=(Mine.sl (c:=cfgR ro) hx).load (Eds.at hi) ag64 sz64;rw [←hee]at this;exact this
 rw [hee2]at hxA
 have Sa:=S.oldH o4
 simp -implicitDefEqProofs [hxX,hxA]
 have hck:=fun K:AVal→AHeap→Prop=>chk8 (ro:=ro) e (len:=((shownA D3.A).length:Int)) ⟨by omega,by omega⟩ het h4 (Q:=K)
 rw [hee2]at hck
 refine hck _ (fun a b c hch=>?_)
 simp -implicitDefEqProofs
 by_cases hc:c=0
 rotate_left
 · simp -implicitDefEqProofs [hc,w2]
   refine .mk (m:=m - 1) (by omega) ?_
   rw [hJ]
   exact⟨i+1,O3,D3,N3,T3,by omega,⟨Sa.C,Sa.I.monoK (Nat.le_succ _),Sa.len,Sa.el,Sa.old,Sa.own⟩,by omega,b2,by omega,fun j hj=>b4 j (by omega),rfl⟩
 subst hc
 have hcan:=can_of hch
 have hdl:=(chk_ok hch).1
 simp -implicitDefEqProofs
 obtain⟨k1,hk1⟩:∃k1,k1=i+1:=⟨_,rfl⟩
 obtain⟨t,htx⟩:∃t:TxV,t=⟨1,k1,k1,0⟩:=⟨_,rfl⟩
 have ht1:t.r=1∧t.clock=k1∧t.id=(1,k1)∧t.seq=k1∧t.user=0:=by rw [htx];exact⟨rfl,rfl,rfl,rfl,rfl⟩
 have hkn:lookI D3.deeds t.id=none:=by rw [ht1.2.2.1];exact b4 k1 (by omega)
 have hmk:=fun K:AVal→AHeap→Prop=>plan_ev hro Sa.C Sa.I (t:=t) (e:=e) (Q:=K) ht1.1 (by omega) b2 hlen hch (by omega) (by omega)
 rw [hee2]at hmk
 refine hmk _ (fun kd x2 n2 tx2 sv h5 bn hbn hbn2 o5 P=>?_)
 have Sb:=Sa.oldH o5
 have htA:∀v,txA t v=.agg [.int .u16 1,.int .u32 (k1:Nat),.int .u64 (k1:Nat),.int .i64 0,v]:=fun v=>by rw [htx];rfl
 obtain⟨hf1,hf2⟩:(∀Q:AVal→AHeap→Prop,(∀h',Old h5 h'→Q (.int .i64 0) h')→Ev (cfgR ro) 46 [opA kd x2 n2 tx2 sv 0] h5 Q)∧∀h',Old h5 h'→∀Q:AVal→AHeap→Prop,Q (.int .i64 (bn:Nat)) h'→Ev (cfgR ro) 17 [opA kd x2 n2 tx2 sv 0] h' Q:=⟨P.fit h5 (Old.refl _),P.at_⟩
 have hap:∀h6,Old h5 h6→∀K:AVal→AHeap→Prop,(∀h7 O7 D7,CSt h7 s O7 D7→Stp (h6.push (.row 7 false (opC kd x2 n2 tx2 sv 0))) O3 h7 O7∨(∃h6',Old (h6.push (.row 7 false (opC kd x2 n2 tx2 sv 0))) h6'∧Stp h6' O3 h7 O7)→EdR (beginD D3 t.id false t.clock) D7 N3 t.clock T3 bn e→K (.int .i64 0) h7)→Ev (cfgR ro) 31 [.ptr s 0,txA t (.sl h6.next 0 1)] (h6.push (.row 7 false (opC kd x2 n2 tx2 sv 0))) K:=by
  intro h6 o6 K hK
  obtain⟨h8,hh8⟩:∃h8,h8=h6.push (.row 7 false (opC kd x2 n2 tx2 sv 0)):=⟨_,rfl⟩
  rw [←hh8]at hK ⊢
  have o8:Old h6 h8:=by rw [hh8];exact(Old.refl h6).push _
  have o58:=o6.trans o8
  have C8:=Sb.C.old o58
  have hm:Mine h6 h8 7 [opC kd x2 n2 tx2 sv 0] (.sl h6.next 0 1):=⟨fun e he=>by rw [List.mem_singleton.1 he];rfl,.inr ⟨h6.next,false,rfl,Nat.le_refl _,by rw [hh8];simp,by rw [hh8,get_push_next];rfl⟩⟩
  have hs:=hm.sl (c:=cfgR ro)
  refine apply1_ev C8 hs P.lt4 hkn (fun Q1 hQ1=>?_) (fun h1 h2 O2 oo PP=>((hm.keep oo).keepO (fun o ho=>PP.keep o ((hm.keep oo).obj o ho).2 (fun hO=>by have:=Sb.C.lt o hO;have:=((hm.keep oo).obj o ho).1;have:=o6.1;omega)) PP.nx).sl) (P:=fun D7=>EdR (beginD D3 t.id false t.clock) D7 N3 t.clock T3 bn e) (fun h1 h2 O2 oo C2 PP K1 hK1=>P.op _ h1 h2 O2 (o58.trans oo) C2 PP K1 hK1) (fun h1 h7 O7 D7 oo C7 P7 hR=>hK h7 O7 D7 C7 (.inr ⟨h1,oo,P7⟩) hR)
  have hnb:=P.nb
  refine check1_ev C8 hs P.lt4 (A:=bn) (fun Q2 hQ2=>?_) hkn (fun h' oo=>P.at_ h' (o58.trans oo)) (fun hb h' oo Q2 hQ2=>?_) (fun h' oo=>P.knw h' (o58.trans oo)) (fun h' oo Q2 hQ2=>?_) (by omega) (by omega) hQ1
  · exact tfit_ev hs P.lt4 (by omega) (by omega) ht1.2.2.2.2 (fun h' oo=>P.at_ h' (o58.trans oo)) (P.fit h8 o58) (by omega) hQ2
  · exact canchored_ev hro (C8.old oo) (P.anc hb).2 (P.anc hb).1 hQ2
  · exact cfree_ev (C8.old oo) (P.at_ h' (o58.trans oo)) P.fre (by omega) hQ2
 simp only [htA]at hap
 simp only [opA]at hf1 hf2
 simp -implicitDefEqProofs [opA,same_self]
 refine hf1 _ (fun h6 o6=>?_)
 simp -implicitDefEqProofs
 refine hf2 h6 o6 _ ?_
 have wc0:IntKind.i64.wrap ((i:Int)+1)=(k1:Int):=by rw [w2,hk1]
 have wc1:IntKind.u32.wrap ((k1:Nat):Int)=(k1:Int):=by rw [wrap32,Int.emod_eq_of_lt (by omega) (by omega)]
 have wc2:IntKind.u64.wrap ((k1:Nat):Int)=(k1:Int):=by rw [wrap64,Int.emod_eq_of_lt (by omega) (by omega)]
 have hap6:=fun K=>hap h6 o6 K
 simp only [opC]at hap6
 simp -implicitDefEqProofs [hbn,same_self,wc0,wc1,wc2,buildSliceR,reps]
 refine hap6 _ (fun h7 O7 D7 C7 P7 R7=>?_)
 obtain⟨o8,P8⟩:∃h8,Old h6 h8∧Stp h8 O3 h7 O7:=by
  rcases P7 with P7 | ⟨h8,oo,P7⟩
  · exact⟨_,(Old.refl h6).push _,P7⟩
  · exact⟨h8,((Old.refl h6).push _).trans oo,P7⟩
 obtain⟨o7,ho7⟩:=P8.2.toOld ((Sb.old.trans o6).trans P8.1) Sb.own
 have w3:IntKind.u32.wrap ((bn:Nat):Int)=((bn:Nat):Int):=by rw [wrap32,Int.emod_eq_of_lt (by omega) (by omega)]
 obtain⟨N5,hN5⟩:∃N5,N5=N3+bn:=⟨_,rfl⟩
 have w4:IntKind.u32.wrap ((N3:Int)+(bn:Int))=(N5:Int):=by rw [wrap32,Int.emod_eq_of_lt (by omega) (by omega)];omega
 simp -implicitDefEqProofs [hbn,w3,w4]
 refine refs7 (hv1.old o7) (by omega) (fun y h9 o9 hy=>?_)
 have hyX:indexAddrR Tryz.prog 45 y (.int .i64 (i:Int))=.ok (elp y 5 i):=(Mine.sl (c:=cfgR ro) hy).idx un45 sz64 (by simpa using hi)
 have hyA:loadR (cfgR ro) h9 64 (elp y 5 i)=.ok (.agg e.cells):=by have:=(Mine.sl (c:=cfgR ro) hy).load (Eds.at hi) ag64 sz64;rw [←hee]at this;exact this
 simp -implicitDefEqProofs [hyX,hyA]
 refine do9 e (by omega) hcan _ ?_
 simp -implicitDefEqProofs
 refine ctext_ev (C7.old o9) (fun hA oA=>?_)
 have htx5:=R7.tx
 have hA5:(beginD D3 t.id false t.clock).A=D3.A:=rfl
 have hE5:(beginD D3 t.id false t.clock).elems=D3.elems:=rfl
 rw [hA5]at htx5
 have hlen5:D7.A.length+1=N5:=by rw [R7.len,hA5];omega
 have hel5:=R7.el
 rw [hE5]at hel5
 have hel3:=S.el
 have hR5l:=R7.len
 rw [hA5]at hR5l
 simp -implicitDefEqProofs [htx5,w2]
 refine .mk (m:=m - 1) (by omega) ?_
 rw [hJ]
 have hI5:PF N5 k1 (T3+1024) D7:=by have:=R7.I;rw [←hN5,ht1.2.1]at this;exact this
 refine⟨k1,O7,D7,N5,T3+1024,by omega,⟨(C7.old o9).old oA,hI5,hlen5,by omega,(o7.trans o9).trans oA,ho7⟩,by omega,by omega,by omega,fun j hj=>(R7.dom _).2 ?_,?_⟩
 · show lookI (putI D3.deeds t.id _) (1,j)=none
   rw [look_put,ht1.2.2.1,if_neg (fun e=>by simp at e;omega)]
   exact b4 j (by omega)
 · rw [←htx5,hk1];rfl
end
end Go.Proofs.YtlhlbamcgopiiaaGreatDoor
