/-
  A part of the proof of PlanJoins, over the seat YtlhlbamcgopiiaaGreatDoor: for every input the law returns true, and the input reads as it did.
-/
import Derived.Test.YtlhlbamcgopiiaaGreatDoorGk
set_option linter.all false
set_option linter.all false
set_option maxRecDepth 100000
set_option maxHeartbeats 4000000
namespace Go.Proofs.YtlhlbamcgopiiaaGreatDoor
open Go Go.RowKit Go.Proofs
variable {P Pn:IdT→Prop} {N K T:Nat} {D D' D0:CV}
theorem movStep_parts (D:CV) (k e:IdT) (key:KeyT):(∀e',lookI (movStep D k e key).lives e'=lookI D.lives e')∧(∀e',spOf (movStep D k e key) e'=if e'=e then spOf D e++[(key,k)]else spOf D e')∧(movStep D k e key).elems=D.elems:=by
 obtain⟨t1,t2,t3,t4,t5⟩:=touchD_sp D k e
 have hs3:∀e',spOf (touchD D k e) e'=spOf D e':=fun e'=>by unfold spOf;rw [t1]
 refine⟨fun e'=>?_,fun e'=>?_,t3⟩
 · show lookI (touchD D k e).lives e'=_
   rw [touchD_lives]
 · show spOf (addD (touchD D k e) e (key,k)) e'=_
   rw [spOf_add,hs3,hs3]
theorem movStep_er (D:CV) (k e:IdT) (key:KeyT) (hn:(D.A.map AtV.id).Nodup):(movStep D k e key).A.map er=D.A.map er:=by
 have hA:(addD (touchD D k e) e (key,k)).A=D.A:=(touchD_sp D k e).2.2.2.1
 show(renewD (addD (touchD D k e) e (key,k)) e).A.map er=_
 rw [renewD_er _ _ (by rw [hA];exact hn),hA]
theorem movStep_deed {D:CV} {k e:IdT} {key:KeyT} (h:∃d,lookI D.deeds k=some d):∃d,lookI (movStep D k e key).deeds k=some d:=by
 obtain⟨d,hd⟩:=h
 obtain⟨d',e1,_⟩:=touchD_deed (e:=e) hd
 exact⟨d',e1⟩
theorem span_run {t:TxV} {s:Sn} {n n0 p0:Nat} {S:List IdT} {D1:CV} (hr:t.r=1) (hn0:n=n0+S.length) (h1:1≤n0) (hB:n0+S.length+s.2≤2 ^ 28) (hT:T+s.2 < 2 ^ 28) (hnd:(S++idsS s).Nodup)
 (hk:∀e∈idsS s,lookI D0.lives e≠none∧(∀y∈spOf D0 e,y.1.2.2 < n0∧y.1.1≤t.clock∧y.1.2.1=1))
 (I:PF (n+s.2) t.clock T D1) (R:MovR D0 D1 t.id t.clock n0 p0 (S++idsS s) S):∀i,i≤s.2→PF (n+s.2) t.clock (T+i) (movN D1 t s n i)∧MovR D0 (movN D1 t s n i) t.id t.clock n0 p0 (S++idsS s) (S++(idsS s).take i)∧∀j,j < i→StepM (movN D1 t s n j) t (plusI s.1 j) (n+j):=by
 intro i
 induction i with
 | zero=>intro _;exact⟨I,by rw [show S++(idsS s).take 0=S by simp];exact R,fun j hj=>by omega⟩
 | succ i ih=>
  intro hi
  obtain⟨I1,R1,M1⟩:=ih (by omega)
  have hg:(idsS s)[i]?=some (plusI s.1 i):=by unfold idsS;rw [List.getElem?_map,List.getElem?_range (by omega)];rfl
  have hgm:plusI s.1 i∈idsS s:=List.mem_of_getElem? hg
  obtain⟨e,he⟩:∃e,e=plusI s.1 i:=⟨_,rfl⟩
  rw [←he]at hg hgm
  have htk:(idsS s).take (i+1)=(idsS s).take i++[e]:=by
   obtain⟨hl,e2⟩:=List.getElem?_eq_some_iff.1 hg
   rw [List.take_succ_eq_append_getElem hl,e2]
  have hnotin:e ∉ S++(idsS s).take i:=by
   intro hm
   have h5:(S++(idsS s).take (i+1)).Nodup:=hnd.sublist (List.Sublist.append_left (List.take_sublist _ _) _)
   rw [htk,←List.append_assoc,List.nodup_append]at h5
   exact h5.2.2 e hm e (by simp) rfl
  obtain⟨k1,k2⟩:=hk e hgm
  have hsp:=R1.sp0 e hnotin
  have hlv:lookI (movN D1 t s n i).lives e≠none:=by rw [R1.lv];exact k1
  obtain⟨l,hl⟩:∃l,lookI (movN D1 t s n i).lives e=some l:=by
   cases h6:lookI (movN D1 t s n i).lives e with
   | none=>exact(hlv h6).elim
   | some l=>exact⟨l,rfl⟩
  obtain⟨d,hd⟩:=R1.dd
  have hget:(S++idsS s)[S.length+i]?=some e:=by rw [List.getElem?_append_right (by omega)];simpa using hg
  obtain⟨a0,ha0,ea⟩:∃a0∈(movN D1 t s n i).A,er a0=⟨t.clock,1,n0+(S.length+i),e.1,e.2,byteA D0.A e,false⟩:=by
   have h7:=List.mem_of_getElem? (newL_get (A:=D0.A) (K:=t.clock) (n:=n0) hget)
   have h8:(⟨t.clock,1,n0+(S.length+i),e.1,e.2,byteA D0.A e,false⟩:AtV)∈(movN D1 t s n i).A.map er:=by
    rw [R1.A]
    exact List.mem_append.2 (.inl (List.mem_append.2 (.inr h7)))
   obtain⟨a0,h9,h10⟩:=List.mem_map.1 h8
   exact⟨a0,h9,h10⟩
  have akey:a0.key=(t.clock,1,n+i):=by
   have:=congrArg AtV.key ea
   rw [show n+i=n0+(S.length+i) by omega];exact this
  have ael:a0.elem=e:=congrArg AtV.elem ea
  have hlt:∀y∈spOf (movN D1 t s n i) e,klt y.1 (t.clock,1,n+i):=by
   intro y hy
   rw [hsp]at hy
   obtain⟨y1,y2,y3⟩:=k2 y hy
   unfold klt
   simp only
   rw [y3]
   rcases Nat.lt_or_ge y.1.1 t.clock with c | c
   · exact .inl c
   · exact .inr ⟨by omega,.inr ⟨rfl,by omega⟩⟩
  have hsl:=I1.sl e
  have hstep:StepM (movN D1 t s n i) t e (n+i):=by
   have hs3:spOf (addD (touchD (movN D1 t s n i) t.id e) e ((t.clock,t.r,n+i),t.id)) e=spOf (movN D1 t s n i) e++[((t.clock,t.r,n+i),t.id)]:=by
    rw [spOf_add,if_pos rfl]
    unfold spOf
    rw [(touchD_sp _ _ _).1]
   refine⟨⟨l,hl⟩,⟨d,hd,by have:=I1.dd _ d hd;omega⟩,fun y hy hk=>?_,by omega,by have:=I1.ns;omega,⟨?_,fun x hx=>?_,fun l2 h2=>?_⟩⟩
   · have:=hlt y hy
     rw [hk,hr]at this
     exact klt_irrefl _ this
   · rw [hs3];simp;omega
   · rw [hs3]at hx
     rcases List.mem_append.1 hx with h | h
     · have:=(I1.spn h).1;omega
     · simp at h;subst h;simp only [];omega
   · have h2:lookI (touchD (movN D1 t s n i) t.id e).lives e=some l2:=h2
     rw [touchD_lives,hl]at h2
     cases h2
     have:=(I1.lv e l hl).2.2;omega
  have eN:movN D1 t s n (i+1)=movStep (movN D1 t s n i) t.id e (t.clock,1,n+i):=by
   have h:movN D1 t s n (i+1)=movStep (movN D1 t s n i) t.id (plusI s.1 i) (t.clock,t.r,n+i):=rfl
   rw [h,←he,hr]
  have I2:=I1.mov (k:=t.id) (e:=e) (key:=(t.clock,1,n+i)) id ha0 akey ael hlt
  obtain⟨q1,q2,q3⟩:=movStep_parts (movN D1 t s n i) t.id e (t.clock,1,n+i)
  refine⟨by rw [eN];exact I2,?_,fun j hj=>?_⟩
  · rw [eN,htk,←List.append_assoc]
    refine⟨by rw [movStep_er _ _ _ _ I1.ci.nd];exact R1.A,fun e'=>(q1 e').trans (R1.lv e'),fun e' hne=>?_,fun j e' hj=>?_,movStep_deed R1.dd,q3.trans R1.el⟩
    · rw [q2,if_neg (fun c=>hne (by simp [c]))]
      exact R1.sp0 e' (fun c=>hne (List.mem_append.2 (.inl c)))
    · rw [q2]
      have hSl:(S++(idsS s).take i).length=S.length+i:=by rw [List.length_append,List.length_take,idsS_len];omega
      by_cases c:j < S.length+i
      · rw [List.getElem?_append_left (by omega)]at hj
        have hne:e'≠e:=fun h=>hnotin (by rw [←h];exact List.mem_of_getElem? hj)
        rw [if_neg hne]
        exact R1.sp1 j e' hj
      · rw [List.getElem?_append_right (by omega),hSl]at hj
        have h0:j - (S.length+i)=0:=by
         have:=(List.getElem?_eq_some_iff.1 hj).1
         simpa using this
        rw [h0]at hj
        simp at hj
        subst hj
        rw [if_pos rfl,hsp]
        have:j=S.length+i:=by omega
        rw [this,show n0+(S.length+i)=n+i by omega]
  · by_cases c:j=i
    · subst c;rw [←he];exact hstep
    · exact M1 j (by omega)
theorem PI.monoK {K':Nat} (h:PI P Pn N K T D) (hk:K≤K'):PI P Pn N K' T D:=
 ⟨h.ci,fun a ha=>by obtain⟨a1,a2,a3,a4⟩:=h.at_ a ha;exact⟨a1,a2,by omega,a4⟩,h.own,h.lv,h.off,h.dd,h.sl,h.inc,h.ns,h.el,h.len⟩
structure MvE (D0:CV) (K n0:Nat) (e:IdT):Prop where
 lv:lookI D0.lives e≠none
 sp:∀y∈spOf D0 e,y.1.2.2 < n0∧y.1.1≤K∧y.1.2.1=1
 e1:e.1=1
 e2:1≤e.2∧e.2 < n0
 own:∃o∈D0.A,o.id=e∧plainB o.b=true
theorem idsOf_cons (s:Sn) (l:List Sn):idsOf (s :: l)=idsS s++idsOf l:=by unfold idsOf;simp
theorem mov_run {t:TxV} {n0 p0:Nat} (hr:t.r=1) (h1:1≤n0) (hp0:p0≤D0.A.length) (hnd0:(D0.A.map AtV.id).Nodup):∀(l:List Sn) (D':CV) (T' K1:Nat) (S:List IdT) (x:IdT),PF (n0+S.length) K1 T' D'→K1≤t.clock→MovR D0 D' t.id t.clock n0 p0 S S→
 posA D'.A x.1 x.2=some (p0+S.length)→x.2 < 2 ^ 32→(∀s∈l,1≤s.2∧s.2≤1024)→(S++idsOf l).Nodup→(∀e∈idsOf l,MvE D0 t.clock n0 e)→n0+S.length+totS l≤65536→T'+totS l < 2 ^ 28→
 MovOk D' t x (n0+S.length) l∧PF (n0+(S++idsOf l).length) t.clock (T'+totS l) (movL D' t x (n0+S.length) l)∧MovR D0 (movL D' t x (n0+S.length) l) t.id t.clock n0 p0 (S++idsOf l) (S++idsOf l)
 | [],D',T',K1,S,x,I,hK,R,_,_,_,_,_,_,_=>⟨trivial,by rw [show idsOf []=[]from rfl,List.append_nil];exact I.monoK hK,by rw [show idsOf []=[]from rfl,List.append_nil];exact R⟩
 | s :: l,D',T',K1,S,x,I,hK,R,hpos,hx,hl,hnd,hE,hB,hT=>by
  obtain⟨s1,s2⟩:=hl s (by simp)
  have htot:totS (s :: l)=s.2+totS l:=by unfold totS;simp
  rw [htot]at hB hT
  rw [idsOf_cons]at hnd hE
  have hEs:∀e∈idsS s,MvE D0 t.clock n0 e:=fun e he=>hE e (List.mem_append.2 (.inl he))
  obtain⟨n,hn⟩:∃n,n=n0+S.length:=⟨_,rfl⟩
  rw [←hn]at I ⊢
  have hown:∀e∈idsS s,byteA D'.A e=byteA D0.A e∧plainB (byteA D'.A e)=true∧∃o∈D'.A,o.id=e∧o.b=byteA D'.A e:=by
   intro e he
   obtain⟨o,ho,o1,o2⟩:=(hEs e he).own
   obtain⟨b,hb,e1⟩:=R.old ho
   have b1:b.id=e:=(congrArg AtV.id e1).trans o1
   have b2:b.b=o.b:=congrArg (·.b) e1
   have h5:=byte_own I.ci.nd hb
   have h6:=byte_own hnd0 ho
   rw [b1]at h5
   rw [o1]at h6
   exact⟨by rw [h5,h6,b2],by rw [h5,b2];exact o2,b,hb,b1,h5.symm⟩
  obtain⟨rr,hrr⟩:∃rr,rr=movRun D'.A t s n:=⟨_,rfl⟩
  have hat:atomsOf rr=newL D0.A t.clock n (idsS s):=by rw [hrr];exact run_new hr (fun e he=>(hown e he).1)
  have hrl:rr.text.length=s.2:=by rw [hrr];exact spanTx_len _ _
  have hput:putG D'.A x rr=D'.A.take (p0+S.length)++(atomsOf rr++D'.A.drop (p0+S.length)):=putG_newest hpos (I.newest hK (by rw [hrr];unfold RunV.key movRun;simp only [hr]))
  have hlast:plusI s.1 (s.2 - 1)∈idsS s:=List.mem_map.2 ⟨s.2 - 1,List.mem_range.2 (by omega),rfl⟩
  have hfirst:plusI s.1 0∈idsS s:=List.mem_map.2 ⟨0,List.mem_range.2 (by omega),rfl⟩
  have hle:=(hEs _ hlast).e2.2
  have hfe:=(hEs _ hfirst).e2.1
  have hf1:=(hEs _ hfirst).e1
  simp only [plusI,Nat.add_zero]at hle hfe hf1
  have hD'len:=I.len
  obtain⟨D1,hD1⟩:∃D1,D1=movPut D' t s x n:=⟨_,rfl⟩
  have hA1:D1.A=D'.A.take (p0+S.length)++(atomsOf rr++D'.A.drop (p0+S.length)):=by rw [hD1,←hput,hrr];rfl
  have hlenX:((D0.A.take p0).map er++newL D0.A t.clock n0 S).length=p0+S.length:=by
   rw [List.length_append,List.length_map,List.length_take,newL_len,Nat.min_eq_left hp0]
  have hA1e:D1.A.map er=(D0.A.take p0).map er++newL D0.A t.clock n0 (S++idsS s)++(D0.A.drop p0).map er:=by
   have e1:(D'.A.take (p0+S.length)).map er=(D0.A.take p0).map er++newL D0.A t.clock n0 S:=by
    rw [List.map_take,R.A,←hlenX,List.take_left]
   have e2:(D'.A.drop (p0+S.length)).map er=(D0.A.drop p0).map er:=by
    rw [List.map_drop,R.A,←hlenX,List.drop_left]
   rw [hA1,List.map_append,List.map_append,e1,e2,hat,newL_er,newL_append,←hn]
   simp only [List.append_assoc]
  have I1:PF (n+s.2) t.clock T' D1:=by
   have:=I.put (x:=x) (r:=rr) (K':=t.clock) hK (by omega) ⟨by rw [hrr];rfl,by rw [hrr];exact hr,by rw [hrr];rfl,by rw [hrr];exact hf1,by rw [hrr];rfl⟩ (fun a ha=>?_)
   · rw [hrl]at this
     rw [hD1,show movPut D' t s x n={ D' with A:=putG D'.A x rr } by rw [hrr];rfl]
     exact this
   · rw [hat]at ha
     obtain⟨i,e,h5,h6⟩:=newL_mem ha
     have hem:=List.mem_of_getElem? h5
     have E:=hEs e hem
     obtain⟨b1,_,o,ho,o1,o2⟩:=hown e hem
     have ael:a.elem=e:=by rw [h6];rfl
     refine⟨by rw [h6];exact E.e2.1,by rw [ael,R.lv];exact E.lv,o,ho,by rw [ael];exact o1,?_⟩
     rw [o2,b1,h6]
  have R1:MovR D0 D1 t.id t.clock n0 p0 (S++idsS s) S:=by
   refine⟨hA1e,fun e=>?_,fun e he=>?_,fun i e he=>?_,?_,?_⟩
   · rw [hD1];exact R.lv e
   · rw [hD1];exact R.sp0 e he
   · rw [hD1];exact R.sp1 i e he
   · rw [hD1];exact R.dd
   · rw [hD1];exact R.el
  have hnd1:(S++idsS s).Nodup:=by
   rw [←List.append_assoc]at hnd
   exact(List.nodup_append.1 hnd).1
  have run:=span_run (S:=S) hr hn h1 (by omega) (by omega) hnd1 (fun e he=>⟨(hEs e he).lv,(hEs e he).sp⟩) I1 R1
  obtain⟨I2,R2,M2⟩:=run s.2 (Nat.le_refl _)
  rw [List.take_of_length_le (by rw [idsS_len];exact Nat.le_refl _)]at R2
  have hS2:movS D' t s x n=movN D1 t s n s.2:=by rw [hD1];rfl
  rw [←hS2]at I2 R2
  have hSl:(S++idsS s).length=S.length+s.2:=by rw [List.length_append,idsS_len]
  have hpos2:posA (movS D' t s x n).A t.r (n+(s.2 - 1))=some (p0+(S++idsS s).length):=by
   have hids:(movS D' t s x n).A.map AtV.id=D1.A.map AtV.id:=er_ids (by rw [R2.A,hA1e])
   rw [posA_ids hids]
   have hg:(idsS s)[s.2 - 1]?=some (plusI s.1 (s.2 - 1)):=by unfold idsS;rw [List.getElem?_map,List.getElem?_range (by omega)];rfl
   have hx2:D1.A[p0+S.length+(s.2 - 1)]?=some ⟨t.clock,1,n+(s.2 - 1),(plusI s.1 (s.2 - 1)).1,(plusI s.1 (s.2 - 1)).2,byteA D0.A (plusI s.1 (s.2 - 1)),false⟩:=by
    have hdl:(D'.A.take (p0+S.length)).length=p0+S.length:=by
     rw [List.length_take]
     have:D'.A.length=(D'.A.map er).length:=by rw [List.length_map]
     rw [R.A,List.length_append,hlenX]at this
     omega
    rw [hA1,List.getElem?_append_right (by omega),hdl,show p0+S.length+(s.2 - 1) - (p0+S.length)=s.2 - 1 by omega,hat,List.getElem?_append_left (by rw [newL_len,idsS_len];omega)]
    exact newL_get hg
   unfold posA
   rw [if_neg (by omega)]
   have:=atIx_at' I1.ci.nd hx2
   simp only at this
   rw [hr,this,Option.map_some,hSl]
   congr 1
   omega
  have hB2:n0+(S++idsS s).length+totS l≤65536:=by rw [hSl];omega
  have e3:n+s.2=n0+(S++idsS s).length:=by rw [hSl];omega
  rw [e3]at I2
  obtain⟨a1,a2,a3⟩:=mov_run hr h1 hp0 hnd0 l (movS D' t s x n) (T'+s.2) t.clock (S++idsS s) (t.r,n+(s.2 - 1)) I2 (Nat.le_refl _) R2 hpos2 (by show n+(s.2 - 1) < _;omega) (fun z hz=>hl z (by simp [hz])) (by rw [List.append_assoc];exact hnd) (fun e he=>hE e (List.mem_append.2 (.inr he))) hB2 (by omega)
  rw [←e3]at a1 a2 a3
  refine⟨⟨⟨hx,?_,?_,⟨_,hpos⟩,?_,?_,?_⟩,a1⟩,?_,?_⟩
  · rw [←hrr]
    have hr1:rr.n=n∧rr.en=s.1.2:=by rw [hrr];exact⟨rfl,rfl⟩
    exact⟨by omega,by omega,by omega,by omega,by omega,by omega⟩
  · unfold plain
    rw [List.all_eq_true]
    intro b hb
    obtain⟨e,he,rfl⟩:=List.mem_map.1 hb
    exact(hown e he).2.1
  · exact hit_new fun a ha=>(I.at_ a ha).2.1
  · omega
  · intro j hj
    have:=M2 j hj
    rw [hD1]at this
    exact this
  · rw [idsOf_cons,htot]
    have e5:S++(idsS s++idsOf l)=S++idsS s++idsOf l:=by rw [List.append_assoc]
    rw [e5,show T'+(s.2+totS l)=T'+s.2+totS l by omega]
    exact a2
  · rw [idsOf_cons]
    have e5:S++(idsS s++idsOf l)=S++idsS s++idsOf l:=by rw [List.append_assoc]
    rw [e5]
    exact a3
end Go.Proofs.YtlhlbamcgopiiaaGreatDoor
set_option linter.all false
set_option maxRecDepth 100000
set_option maxHeartbeats 4000000
namespace Go.Proofs.YtlhlbamcgopiiaaGreatDoor
open Go Go.RowKit Go.Proofs
variable {N K T:Nat} {D D' D0:CV}
theorem newL_b (A:List AtV) (K:Nat):∀(l:List IdT) (n:Nat),(newL A K n l).map (·.b)=l.map (byteA A)
 | [],_=>rfl
 | e :: l,n=>by show _ :: (newL A K (n+1) l).map _=_ :: _;rw [newL_b A K l]
theorem mov_text {k:IdT} {K' p0:Nat} {S:List IdT} (I:PF N K T D0) {N' T':Nat} (I':PF N' K' T' D') (R:MovR D0 D' k K' N p0 S S) (hS:∀e∈S,1≤countD D0 e):
 shownA D'.A=((shL (D0.A.take p0)).filter (fun a=>decide (a.elem ∉ S))).map (·.b)++S.map (byteA D0.A)++((shL (D0.A.drop p0)).filter (fun a=>decide (a.elem ∉ S))).map (·.b):=by
 have e1:shownA D'.A=((D'.A.map er).filter (fun a=>decide (okF D' a))).map (·.b):=by
  rw [←shL_bytes,I'.shL,List.filter_map,List.map_map];rfl
 have last:∀(i:Nat) e,S[i]?=some e→bestD D' e=((K',1,N+i),k):=fun i e h=>best_last I'.off (R.sp1 i e h) (I'.inc e)
 have old:∀a∈D0.A,(okF D' a↔(a.elem ∉ S∧okF D0 a)):=by
  intro a ha
  by_cases c:a.elem∈S
  · obtain⟨i,hi⟩:=List.mem_iff_getElem?.1 c
    refine⟨fun h=>?_,fun h=>(h.1 c).elim⟩
    have h2:=h.2
    rw [last i _ hi]at h2
    have h3:a.n=N+i:=congrArg (fun k:KeyT=>k.2.2) h2
    have:=(I.at_ a ha).2.1
    omega
  · rw [okF_congr (a:=a) (R.lv _) (R.sp0 _ c) (fun k=>by rw [I'.off,I.off])]
    exact⟨fun h=>⟨c,h⟩,fun h=>h.2⟩
 have part:∀B:List AtV,(∀a∈B,a∈D0.A)→(B.map er).filter (fun a=>decide (okF D' a))=((shL B).filter (fun a=>decide (a.elem ∉ S))).map er:=by
  intro B hB
  rw [List.filter_map]
  congr 1
  unfold shL
  rw [List.filter_filter]
  refine List.filter_congr fun a ha=>?_
  show decide (okF D' a)=_
  have h1:=old a (hB a ha)
  have h2:=I.ok (hB a ha)
  have h3:(decide (a.elem ∉ S) && a.shown)=true↔(a.elem ∉ S∧okF D0 a):=by rw [Bool.and_eq_true,decide_eq_true_iff,h2]
  by_cases c:okF D' a
  · rw [decide_eq_true c,h3.2 (h1.1 c)]
  · rw [decide_eq_false c]
    cases hb:(decide (a.elem ∉ S) && a.shown)with
    | false=>rfl
    | true=>exact(c (h1.2 (h3.1 hb))).elim
 have new:(newL D0.A K' N S).filter (fun a=>decide (okF D' a))=newL D0.A K' N S:=by
  rw [List.filter_eq_self]
  intro a ha
  obtain⟨i,e,hi,ea⟩:=newL_mem ha
  refine decide_eq_true ⟨?_,?_⟩
  · have hel:a.elem=e:=by rw [ea];rfl
    rw [hel,countD_congr (R.lv e) (fun k=>by rw [I'.off,I.off])]
    exact hS e (List.mem_of_getElem? hi)
  · have hel:a.elem=e:=by rw [ea];rfl
    rw [hel,last i e hi,ea];rfl
 rw [e1,R.A,List.filter_append,List.filter_append,part _ (fun a ha=>List.mem_of_mem_take ha),part _ (fun a ha=>List.mem_of_mem_drop ha),new,List.map_append,List.map_append,newL_b,List.map_map,List.map_map]
 rfl
theorem PF.elem (I:PF N K T D) {a b:Nat} (e:IdT) (he:e∈elemsP D.A a b):∃x∈D.A,x.elem=e∧x.shown=true∧okF D x:=by
 unfold elemsP at he
 obtain⟨x,hx,rfl⟩:=List.mem_map.1 he
 have hx2:=List.mem_of_mem_drop (List.mem_of_mem_take hx)
 unfold Go.Proofs.YtlhlbamcgopiiaaGreatDoor.shL at hx2
 rw [List.mem_filter]at hx2
 exact⟨x,hx2.1,rfl,hx2.2,(I.ok hx2.1).1 hx2.2⟩
theorem PF.elemsP_nd (I:PF N K T D) (a b:Nat):(elemsP D.A a b).Nodup:=by
 have h:=I.elems_nd
 refine h.sublist ?_
 unfold elemsP
 exact List.Sublist.map AtV.elem ((List.take_sublist _ _).trans (List.drop_sublist _ _))
theorem PF.mve (I:PF N K T D) {a b K':Nat} (hK:K≤K') {e:IdT} (he:e∈elemsP D.A a b):MvE D K' N e:=by
 obtain⟨x,hx,rfl,_,ho⟩:=I.elem e he
 obtain⟨a1,a2,a3,a4,a5,a6,a7⟩:=I.at_ x hx
 obtain⟨o,ho1,o1,o2⟩:=I.own x hx
 refine⟨I.ci.lv x hx id,fun y hy=>?_,a5,⟨a6,a7⟩,o,ho1,o1,by rw [o2];exact a4⟩
 obtain⟨b1,b2,b3⟩:=I.spn hy
 exact⟨b1,by omega,b3⟩
theorem mid_bytes (I:PF N K T D) (a b:Nat):(elemsP D.A a b).map (byteA D.A)=((shownA D.A).drop a).take (b - a):=by
 unfold elemsP
 rw [←shL_bytes,←List.map_drop,←List.map_take,List.map_map]
 refine List.map_congr_left fun x hx=>?_
 have hx2:=List.mem_of_mem_drop (List.mem_of_mem_take hx)
 unfold Go.Proofs.YtlhlbamcgopiiaaGreatDoor.shL at hx2
 rw [List.mem_filter]at hx2
 obtain⟨o,ho1,o1,o2⟩:=I.own x hx2.1
 have:=byte_own I.ci.nd ho1
 show byteA D.A (x.er,x.en)=x.b
 rw [show((x.er,x.en):IdT)=o.id from o1.symm,this,o2]
theorem keep3 (I:PF N K T D) {a b:Nat} (hab:a≤b) (hb:b≤(shL D.A).length):(∀x∈(shL D.A).take a,decide (x.elem ∉ elemsP D.A a b)=true)∧(∀x∈((shL D.A).drop a).take (b - a),decide (x.elem ∉ elemsP D.A a b)=false)∧(∀x∈(shL D.A).drop b,decide (x.elem ∉ elemsP D.A a b)=true):=by
 have hL:shL D.A=(shL D.A).take a++(((shL D.A).drop a).take (b - a)++(shL D.A).drop b):=by
  have:(shL D.A).drop b=((shL D.A).drop a).drop (b - a):=by rw [List.drop_drop,show a+(b - a)=b by omega]
  rw [this,List.take_append_drop,List.take_append_drop]
 have nd:=I.elems_nd
 rw [hL]at nd
 obtain⟨h1,h2,h3⟩:=cutL nd
 have e:elemsP D.A a b=(((shL D.A).drop a).take (b - a)).map AtV.elem:=rfl
 rw [e]
 exact⟨fun x hx=>List.filter_eq_self.1 h1 x hx,fun x hx=>by have:=List.filter_eq_nil_iff.1 h2 x hx;simpa using this,fun x hx=>List.filter_eq_self.1 h3 x hx⟩
theorem filt_self {f:AtV→Bool} {l:List AtV} (h:∀x∈l,f x=true):l.filter f=l:=List.filter_eq_self.2 h
theorem filt_nil {f:AtV→Bool} {l:List AtV} (h:∀x∈l,f x=false):l.filter f=[]:=List.filter_eq_nil_iff.2 fun x hx=>by rw [h x hx];simp
theorem cut_text (I:PF N K T D) {a b:Nat} (hab:a≤b) (hb:b≤(shL D.A).length):((shL D.A).filter (fun x=>decide (x.elem ∉ elemsP D.A a b))).map (·.b)=(shownA D.A).take a++(shownA D.A).drop b:=by
 obtain⟨h1,h2,h3⟩:=keep3 I hab hb
 obtain⟨L,hLd⟩:∃L,L=shL D.A:=⟨_,rfl⟩
 have hL:L=L.take a++((L.drop a).take (b - a)++L.drop b):=by
  have:L.drop b=(L.drop a).drop (b - a):=by rw [List.drop_drop,show a+(b - a)=b by omega]
  rw [this,List.take_append_drop,List.take_append_drop]
 rw [←shL_bytes,←List.map_take,←List.map_drop]
 rw [←hLd]at h1 h2 h3 ⊢
 conv=>lhs;rw [hL]
 rw [List.filter_append,List.filter_append,filt_self h1,filt_nil h2,filt_self h3,List.nil_append,List.map_append]
theorem mov_text2 (I:PF N K T D) {a b d:Nat} (hab:a < b) (hb:b≤(shL D.A).length) (hd:d≤(shL D.A).length) (hdd:d < a∨b < d):
 (((shL D.A).take d).filter (fun x=>decide (x.elem ∉ elemsP D.A a b))).map (·.b)++((shownA D.A).drop a).take (b - a)++(((shL D.A).drop d).filter (fun x=>decide (x.elem ∉ elemsP D.A a b))).map (·.b)=
 if d < a then(shownA D.A).take d++((shownA D.A).take b).drop a++((shownA D.A).take a).drop d++(shownA D.A).drop b else(shownA D.A).take a++((shownA D.A).take d).drop b++((shownA D.A).take b).drop a++(shownA D.A).drop d:=by
 obtain⟨h1,h2,h3⟩:=keep3 (a:=a) (b:=b) I (by omega) hb
 obtain⟨L,hLd⟩:∃L,L=shL D.A:=⟨_,rfl⟩
 rw [←hLd]at h1 h2 h3 hb hd ⊢
 have hs:shownA D.A=L.map (·.b):=by rw [hLd,shL_bytes]
 rw [hs]
 have hmid:((L.map (·.b)).take b).drop a=((L.map (·.b)).drop a).take (b - a):=by rw [List.drop_take]
 rw [hmid]
 have hL:L=L.take a++((L.drop a).take (b - a)++L.drop b):=by
  have:L.drop b=(L.drop a).drop (b - a):=by rw [List.drop_drop,show a+(b - a)=b by omega]
  rw [this,List.take_append_drop,List.take_append_drop]
 rcases hdd with c | c
 · rw [if_pos c]
   have e1:L.drop d=(L.take a).drop d++((L.drop a).take (b - a)++L.drop b):=by
    conv=>lhs;rw [hL]
    rw [List.drop_append_of_le_length (by rw [List.length_take];omega)]
   rw [e1,List.filter_append,List.filter_append,filt_nil h2,filt_self h3,filt_self (fun x hx=>h1 x (List.mem_of_mem_drop hx)),filt_self (fun x hx=>h1 x (by
    have:L.take d=(L.take a).take d:=by rw [List.take_take,Nat.min_eq_left (by omega)]
    rw [this]at hx
    exact List.mem_of_mem_take hx))]
   simp [List.map_take,List.map_drop,List.append_assoc]
 · rw [if_neg (by omega)]
   have e1:L.take d=L.take a++((L.drop a).take (b - a)++(L.drop b).take (d - b)):=by
    have h5:L.take d=(L.take a++(L.drop a).take (b - a)++L.drop b).take d:=by rw [List.append_assoc,←hL]
    have h6:(L.take a++(L.drop a).take (b - a)).length=b:=by rw [List.length_append,List.length_take,List.length_take,List.length_drop];omega
    rw [h5,List.take_append,List.take_of_length_le (by rw [h6];omega),h6,List.append_assoc]
   rw [e1,List.filter_append,List.filter_append,filt_nil h2,filt_self h1,filt_self (fun x hx=>h3 x (List.mem_of_mem_take hx)),filt_self (fun x hx=>h3 x (by
    have:L.drop d=(L.drop b).drop (d - b):=by rw [List.drop_drop,show b+(d - b)=d by omega]
    rw [this]at hx
    exact List.mem_of_mem_drop hx))]
   have e2:((L.map (·.b)).take d).drop b=((L.map (·.b)).drop b).take (d - b):=by rw [List.drop_take]
   rw [e2]
   simp [List.map_take,List.map_drop,List.append_assoc]
end Go.Proofs.YtlhlbamcgopiiaaGreatDoor
set_option linter.all false
set_option maxRecDepth 100000
set_option maxHeartbeats 4000000
namespace Go.Proofs.YtlhlbamcgopiiaaGreatDoor
open Go Go.RowKit Go.Proofs
def DomD (D D':CV):Prop:=∀k,lookI D'.deeds k=none↔lookI D.deeds k=none
theorem DomD.refl (D:CV):DomD D D:=fun _=>Iff.rfl
theorem DomD.trans {A B C:CV} (h:DomD A B) (g:DomD B C):DomD A C:=fun k=>(g k).trans (h k)
theorem dom_touch (D:CV) (k e:IdT):DomD D (touchD D k e):=by
 intro k'
 unfold touchD
 cases hd:lookI D.deeds k with
 | none=>exact Iff.rfl
 | some d=>
  simp only
  split
  · exact Iff.rfl
  · simp only
    rw [look_put]
    by_cases c:k'=k
    · rw [if_pos c,c,hd];simp
    · rw [if_neg c]
theorem dom_insN (D:CV) (t:TxV) (n:Nat):∀i,DomD D (insN D t n i)
 | 0=>DomD.refl D
 | i+1=>(dom_insN D t n i).trans (dom_touch _ _ _)
theorem dom_insD (D:CV) (t:TxV) (x:IdT) (n:Nat) (tx:Str):DomD D (insD D t x n tx):=fun k=>dom_insN { D with A:=putG D.A x ⟨t.clock,t.r,n,t.r,n,tx,true⟩ } t n tx.length k
theorem dom_delL (k:IdT):∀(l:List IdT) (D:CV),DomD D (delL D k l)
 | [],D=>DomD.refl D
 | e :: l,D=>by
  have h:DomD D (delStep D k e):=fun k'=>by
   show lookI (letD (touchD D k e) k e).deeds k'=none↔_
   rw [(letD_sp D k e).2.2.1];exact dom_touch D k e k'
  exact h.trans (dom_delL k l (delStep D k e))
theorem dom_movN (D:CV) (t:TxV) (s:Sn) (n:Nat):∀i,DomD D (movN D t s n i)
 | 0=>DomD.refl D
 | i+1=>(dom_movN D t s n i).trans (fun k=>dom_touch (movN D t s n i) t.id (plusI s.1 i) k)
theorem dom_movL (t:TxV):∀(l:List Sn) (D:CV) (x:IdT) (n:Nat),DomD D (movL D t x n l)
 | [],D,_,_=>DomD.refl D
 | s :: l,D,x,n=>by
  have h:DomD D (movS D t s x n):=fun k=>dom_movN (movPut D t s x n) t s n s.2 k
  exact h.trans (dom_movL t l _ _ _)
theorem chk_ok {e:Ed} {s:Str} {a b:Int} (h:chk e s.length=(a,b,0)):a=(doS s e).length∧
 ((∃i:Nat,e.kind=1∧e.at_=i∧i≤s.length∧plain e.text=true∧0 < e.text.length∧e.text.length≤64∧b=e.text.length)∨
  (∃i t:Nat,e.kind=2∧e.at_=i∧e.to_=t∧i < t∧t≤s.length∧t - i≤1024∧b=0∧e.dest=0)∨
  (∃i t d:Nat,e.kind=3∧e.at_=i∧e.to_=t∧e.dest=d∧i < t∧t≤s.length∧t - i≤1024∧d≤s.length∧(d < i∨t < d)∧b=(t - i:Nat))):=by
 unfold chk at h
 by_cases h1:e.kind=1
 · rw [if_pos h1]at h
   by_cases c1:e.to_≠0∨e.dest≠0
   · rw [if_pos c1]at h;simp at h
   rw [if_neg c1]at h
   by_cases c2:e.at_ < 0∨(s.length:Int) < e.at_
   · rw [if_pos c2]at h;simp at h
   rw [if_neg c2]at h
   by_cases c3:e.text.length < 1∨plain e.text=false
   · rw [if_pos c3]at h;simp at h
   rw [if_neg c3]at h
   by_cases c4:64 < e.text.length
   · rw [if_pos c4]at h;simp at h
   rw [if_neg c4]at h
   simp only [Prod.mk.injEq,and_true]at h
   obtain⟨rfl,rfl⟩:=h
   have hp:plain e.text=true:=by cases hh:plain e.text with
    | true=>rfl
    | false=>exact(c3 (.inr hh)).elim
   refine⟨?_,.inl ⟨e.at_.toNat,h1,by omega,by omega,hp,by omega,by omega,rfl⟩⟩
   unfold doS
   simp only [h1,if_true,List.length_append,List.length_take,List.length_drop]
   omega
 · rw [if_neg h1]at h
   by_cases h2:e.kind=2∨e.kind=3
   · rw [if_pos h2]at h
     by_cases c1:e.text≠[]∨(e.kind=2∧e.dest≠0)
     · rw [if_pos c1]at h;simp at h
     rw [if_neg c1]at h
     by_cases c2:e.at_ < 0∨e.to_≤e.at_∨(s.length:Int) < e.to_
     · rw [if_pos c2]at h;simp at h
     rw [if_neg c2]at h
     by_cases c3:1024 < e.to_ - e.at_
     · rw [if_pos c3]at h;simp at h
     rw [if_neg c3]at h
     by_cases c4:e.kind=2
     · rw [if_pos c4]at h
       simp only [Prod.mk.injEq,and_true]at h
       obtain⟨rfl,rfl⟩:=h
       refine⟨?_,.inr (.inl ⟨e.at_.toNat,e.to_.toNat,c4,by omega,by omega,by omega,by omega,by omega,rfl,?_⟩)⟩
       · unfold doS
         rw [if_neg h1,if_pos c4]
         simp only [List.length_append,List.length_take,List.length_drop]
         omega
       · exact Classical.byContradiction fun hh=>c1 (.inr ⟨c4,hh⟩)
     · rw [if_neg c4]at h
       have h3:e.kind=3:=h2.resolve_left c4
       by_cases c5:e.dest < 0∨(s.length:Int) < e.dest
       · rw [if_pos c5]at h;simp at h
       rw [if_neg c5]at h
       by_cases c6:e.at_≤e.dest∧e.dest≤e.to_
       · rw [if_pos c6]at h;simp at h
       rw [if_neg c6]at h
       simp only [Prod.mk.injEq,and_true]at h
       obtain⟨rfl,rfl⟩:=h
       refine⟨?_,.inr (.inr ⟨e.at_.toNat,e.to_.toNat,e.dest.toNat,h3,by omega,by omega,by omega,by omega,by omega,by omega,by omega,by omega,by omega⟩)⟩
       unfold doS
       rw [if_neg h1,if_neg c4]
       split <;> simp only [List.length_append,List.length_take,List.length_drop] <;> omega
   · rw [if_neg h2]at h;simp at h
section
variable {ro:Nat→Option (List AVal)} {h:AHeap}
theorem undo_nil_ev {t:TxV} {K:AVal→AHeap→Prop} (hK:∀a b:Nat,K (.tuple [.agg [.int .u16 a,.int .u32 b],.bool false]) h):Ev (cfgR ro) 58 [txA t .nils] h K:=by
 refine Ev.wp rfl rfl Tryz.func58 rfl ?_
 have:=hK 0 0
 simp -implicitDefEqProofs [Tryz.f58,txA,lenR,lenA]
 exact this
theorem atoms1_ev {x:IdT} {n seq:Nat} {tx:Str} {v:AVal} {Q:AVal→AHeap→Prop} (hq:Q (.int .i64 (tx.length:Nat)) h):Ev (cfgR ro) 17 [opA 1 x n tx v seq] h Q:=by
 refine Ev.wp rfl rfl Tryz.func17 rfl ?_
 simp -implicitDefEqProofs [Tryz.f17,opA]
 exact hq
theorem atoms2_ev {x:IdT} {n seq:Nat} {tx:Str} {v:AVal} {Q:AVal→AHeap→Prop} (hq:Q (.int .i64 0) h):Ev (cfgR ro) 17 [opA 2 x n tx v seq] h Q:=by
 refine Ev.wp rfl rfl Tryz.func17 rfl ?_
 simp -implicitDefEqProofs [Tryz.f17,opA]
 exact hq
theorem atoms3_ev {x:IdT} {n seq:Nat} {tx:Str} {v:AVal} {l:List Sn} (hs:Sl (cfgR ro) h 3 v (l.map snc)) (hl:l.length < 2 ^ 40) (hn:totS l < 2 ^ 40) {Q:AVal→AHeap→Prop} (hq:Q (.int .i64 (totS l:Nat)) h):Ev (cfgR ro) 17 [opA 3 x n tx v seq] h Q:=by
 refine Ev.wp rfl rfl Tryz.func17 rfl ?_
 simp -implicitDefEqProofs [Tryz.f17,opA]
 refine total_ev hs hl hn ?_
 simp -implicitDefEqProofs
 exact hq
end
end Go.Proofs.YtlhlbamcgopiiaaGreatDoor
set_option linter.all false
set_option maxRecDepth 100000
set_option maxHeartbeats 4000000
namespace Go.Proofs.YtlhlbamcgopiiaaGreatDoor
open Go Go.RowKit Go.Proofs
structure EdR (D D2:CV) (N K T bn:Nat) (e:Ed):Prop where
 I:PF (N+bn) K (T+1024) D2
 tx:shownA D2.A=doS (shownA D.A) e
 len:D2.A.length=D.A.length+bn
 el:D2.elems≤D.elems+bn
 dom:DomD D D2
theorem PI.monoT {P Pn:IdT→Prop} {N K T T':Nat} {D:CV} (h:PI P Pn N K T D) (hk:T≤T'):PI P Pn N K T' D:=
 ⟨h.ci,h.at_,h.own,fun e l hl=>by obtain⟨a1,a2,a3⟩:=h.lv e l hl;exact⟨a1,a2,by omega⟩,h.off,fun k d hd=>Nat.le_trans (h.dd k d hd) hk,fun e=>Nat.le_trans (h.sl e) hk,h.inc,Nat.le_trans h.ns hk,Nat.le_trans h.el hk,h.len⟩
section
variable {ro:Nat→Option (List AVal)} {h:AHeap} {s:Nat} {D:CV} {O:Nat→Prop} {N K T:Nat}
theorem edit_ev (hro:ro 0=some [.int .u16 0,.int .u32 0]) (C:CSt h s O D) (I:PF N K T D) {t:TxV} {v:AVal} {e:Ed} {a b:Int} (hr:t.r=1) (hK:K≤t.clock) (hN:1≤N) (hlN:D.A.length+1=N) (hd:∃d,lookI D.deeds t.id=some d) (hc:chk e (shownA D.A).length=(a,b,0)) (hB:N+1024≤65536) (hT:T+1024 < 2 ^ 27) {Q:AVal→AHeap→Prop}
 (hq:∀kd x n' tx sv sq h1 (bn:Nat),b=bn→bn≤1024→Old h h1→(∀Q1:AVal→AHeap→Prop,(∀h2 O2 D2,CSt h2 s O2 D2→Stp h1 O h2 O2→EdR D D2 N t.clock T bn e→(∀Q2:AVal→AHeap→Prop,Q2 (.int .i64 bn) h2→Ev (cfgR ro) 17 [opA kd x n' tx sv sq] h2 Q2)→Q1 (.tuple []) h2)→Ev (cfgR ro) 16 [.ptr s 0,txA t v,opA kd x n' tx sv sq] h1 Q1)→Q (opA kd x n' tx sv sq) h1):
 Ev (cfgR ro) 15 [.ptr s 0,.agg e.cells,.int .u32 N] h Q:=by
 have hsl:(shownA D.A).length=(shL D.A).length:=(shL_len _).symm
 have hAl:(shL D.A).length≤D.A.length:=List.length_filter_le _ _
 obtain⟨_,hcase⟩:=chk_ok hc
 rcases hcase with ⟨i,e1,e2,e3,e4,e5,e6,e7⟩ | ⟨i,to,e1,e2,e3,e4,e5,e6,e7,e8⟩ | ⟨i,to,dd,e1,e2,e3,e8,e4,e5,e6,e9,e10,e7⟩
 · refine make_ins_ev C e1 e2 (by omega) (by omega) (fun h1 o1=>hq _ _ _ _ _ _ h1 e.text.length e7 (by omega) o1 (fun Q1 hQ1=>?_))
   obtain⟨⟨p,p1⟩,p2,p3,p4,p5,p6,p7,p8,p9⟩:=I.insert (i:=i) hr hK hN e4 e5 (by omega) (by omega) (by omega) (by omega) hd
   refine op_ins_ev hro (C.old o1) p2 p3 e4 p1 p4 (by omega) p5 (fun h2 O2 C2 P2=>hQ1 h2 O2 _ C2 P2 ⟨p6.monoT (by omega),?_,p9,by rw [p8];exact Nat.le_refl _,dom_insD _ _ _ _ _⟩ (fun Q2 hQ2=>atoms1_ev hQ2))
   rw [p7]
   unfold doS
   simp only [e1,e2,if_true,Int.toNat_natCast]
 · have hid:∀x∈elemsP D.A i to,x.2 < 2 ^ 30:=fun x hx=>by have:=(I.mve (Nat.le_refl K) hx).e2;omega
   have hel:=elemsP_len (A:=D.A) (a:=i) (b:=to) (by omega) (by omega)
   have ok:=ofIds_ok (elemsP D.A i to)
   refine make_del_ev C e1 e2 e3 (by omega) (by omega) (by omega) (by omega) hid (fun v' h1 o1 m1=>hq _ _ _ _ _ _ h1 0 e7 (by omega) o1 (fun Q1 hQ1=>?_))
   have hids:=ok.ids
   have hD:=del_run (N:=N) (K:=K) (D:=D) (k:=t.id) (by omega) (elemsP D.A i to) D T [] I ⟨rfl,fun _=>rfl,fun _ _=>rfl,fun e he=>(by cases he),hd,rfl⟩ (fun e he=>(I.mve (Nat.le_refl K) he).lv) (by rw [hel];omega)
   obtain⟨d1,d2,d3⟩:=hD
   refine op_del_ev (C.old o1) (l:=ofIds (elemsP D.A i to)) (by have:=ok.len;omega) (fun z hz=>by have:=ok.pos z hz;have:=hid _ this.2.2;omega) (by rw [hids,hel];omega) m1.sl (by rw [hids];exact d1) (fun h2 O2 C2 P2=>?_)
   rw [hids]at C2
   have hAeq:(delL D t.id (elemsP D.A i to)).A.length=D.A.length:=by
    have:=congrArg List.length d3.A
    simpa using this
   refine hQ1 h2 O2 _ C2 P2 ⟨(d2.monoK hK).monoT (by rw [hel];omega),?_,by rw [hAeq];rfl,by rw [d3.el];exact Nat.le_refl _,dom_delL _ _ _⟩ (fun Q2 hQ2=>atoms2_ev hQ2)
   rw [del_text I d2 d3,List.nil_append,cut_text I (by omega) (by omega)]
   unfold doS
   simp only [e1,e2,e3,Int.toNat_natCast]
   rfl
 · have hid:∀x∈elemsP D.A i to,x.2 < 2 ^ 30:=fun x hx=>by have:=(I.mve (Nat.le_refl K) hx).e2;omega
   have hel:=elemsP_len (A:=D.A) (a:=i) (b:=to) (by omega) (by omega)
   have ok:=ofIds_ok (elemsP D.A i to)
   have hids:=ok.ids
   have htot:totS (ofIds (elemsP D.A i to))=to - i:=by rw [←totS_ids,hids,hel]
   refine make_mov_ev C e1 e8 (by omega) (by omega) e2 e3 (by omega) (by omega) (by omega) (by omega) hid (fun v' h1 o1 m1=>hq _ _ _ _ _ _ h1 (to - i) e7 (by omega) o1 (fun Q1 hQ1=>?_))
   obtain⟨p,p1,p2,p3,p4⟩:=I.anc (i:=dd) (by omega)
   have hpl:p≤D.A.length:=by
    unfold posA at p1
    split at p1
    · cases p1;omega
    · rw [Option.map_eq_some_iff]at p1
      obtain⟨j,j1,rfl⟩:=p1
      have:=atIx_lt j1;omega
   have hR0:MovR D D t.id t.clock N p [] []:=⟨by simp [newL],fun _=>rfl,fun _ _=>rfl,fun i e he=>(by simp at he),hd,rfl⟩
   obtain⟨a1,a2,a3⟩:=mov_run (t:=t) (n0:=N) (p0:=p) hr hN hpl I.ci.nd (ofIds (elemsP D.A i to)) D T K [] (ancP D.A dd) (by rw [List.length_nil,Nat.add_zero];exact I) hK hR0 (by rw [List.length_nil,Nat.add_zero];exact p1) (by omega) (fun z hz=>by have:=ok.pos z hz;omega) (by rw [List.nil_append,hids];exact I.elemsP_nd i to) (by rw [hids];exact fun e he=>I.mve hK he) (by rw [htot,List.length_nil];omega) (by rw [htot];omega)
   rw [List.nil_append,hids,hel,htot]at a2
   rw [List.nil_append,hids]at a3
   rw [List.length_nil,Nat.add_zero]at a1 a2 a3
   have hmk:∀h' O',Stp h1 O h' O'→Mine h h' 3 ((ofIds (elemsP D.A i to)).map snc) v':=fun h' O' P=>m1.keepO (fun o ho=>P.keep o (m1.obj o ho).2 (fun hO=>by have:=C.lt o hO;have:=(m1.obj o ho).1;omega)) P.nx
   refine op_mov_ev hro (C.old o1) (l:=ofIds (elemsP D.A i to)) (by have:=ok.len;omega) (fun h' O' P=>(hmk h' O' P).sl) a1 (fun h2 O2 C2 P2=>?_)
   have hAl2:(movL D t (ancP D.A dd) N (ofIds (elemsP D.A i to))).A.length=D.A.length+(to - i):=by
    have:=congrArg List.length a3.A
    simp only [List.length_map,List.length_append,newL_len,hel,List.length_take,List.length_drop]at this
    omega
   refine hQ1 h2 O2 _ C2 P2 ⟨a2.monoT (by omega),?_,hAl2,by rw [a3.el];omega,dom_movL _ _ _ _ _⟩ (fun Q2 hQ2=>atoms3_ev (hmk h2 O2 P2).sl (by have:=ok.len;omega) (by rw [htot];omega) (by rw [htot];exact hQ2))
   rw [mov_text I a2 a3 (fun e he=>by obtain⟨x,_,rfl,_,ho⟩:=I.elem e he;exact ho.1),p2,p3,mid_bytes I,mov_text2 I e4 (by omega) (by omega) e10]
   unfold doS
   simp only [e1,e2,e3,e8,Int.toNat_natCast]
   rfl
end
end Go.Proofs.YtlhlbamcgopiiaaGreatDoor
set_option linter.all false
set_option maxRecDepth 100000
set_option maxHeartbeats 4000000
namespace Go.Proofs.YtlhlbamcgopiiaaGreatDoor
open Go Go.RowKit Go.Proofs
structure St22 (h0 h:AHeap) (s:Nat) (O:Nat→Prop) (D:CV) (N K T:Nat):Prop where
 C:CSt h s O D
 I:PF N K T D
 len:D.A.length+1=N
 el:D.elems≤D.A.length
 old:Old h0 h
 own:∀o,O o→h0.next≤o
theorem St22.oldH {h0 h h':AHeap} {s:Nat} {O:Nat→Prop} {D:CV} {N K T:Nat} (S:St22 h0 h s O D N K T) (o:Old h h'):St22 h0 h' s O D N K T:=⟨S.C.old o,S.I,S.len,S.el,S.old.trans o,S.own⟩
theorem Sl.one {c:Cfg} {h:AHeap} {sz:Nat} {v:AVal} {es:List (List AVal)} (s:Sl c h sz v es):cellsV v=.ok [v]:=by
 have h1:=s.len
 have h2:=s.noStr
 cases v <;> simp only [lenA]at h1 <;> first | (cases h1;done) | (exact absurd rfl (h2 _)) | rfl
section
variable {ro:Nat→Option (List AVal)}
theorem PlanJoins_ev (hro:ro 0=some [.int .u16 0,.int .u32 0]) {h0:AHeap} {v1 v2:AVal} {l more:List Ed} (hv1:Eds (cfgR ro) h0 v1 l) (hv2:Eds (cfgR ro) h0 v2 more) (hn1:l.length < 2 ^ 63) (hn2:more.length < 2 ^ 63):Ev (cfgR ro) 3 [v1,v2] h0 (fun x _=>x=.bool true):=by
 refine Ev.wp rfl rfl Tryz.func3 rfl ?_
 have hL1:lenR (cfgR ro) h0 22 v1=.ok (.int .i64 (l.length:Nat)):=by have:=hv1.lenR (t:=22) un22;simpa using this
 have hL2:lenR (cfgR ro) h0 22 v2=.ok (.int .i64 (more.length:Nat)):=by have:=hv2.lenR (t:=22) un22;simpa using this
 simp -implicitDefEqProofs [Tryz.f3,Ev.run (run5 h0)]
 refine small6 hv1 hn1 ?_
 cases hs1:smallB l
 · simp -implicitDefEqProofs
 simp -implicitDefEqProofs
 refine small6 hv2 hn2 ?_
 cases hs2:smallB more
 · simp -implicitDefEqProofs
 obtain⟨ht1,hl1⟩:=smallB_iff.1 hs1
 obtain⟨ht2,hl2⟩:=smallB_iff.1 hs2
 by_cases c1:16 < l.length
 · have c1':(16:Int) < (l.length:Int):=by omega
   simp -implicitDefEqProofs [hL1,c1,c1']
 by_cases c2:16 < more.length
 · have c2':(16:Int) < (more.length:Int):=by omega
   have c1':¬(16:Int) < (l.length:Int):=by omega
   simp -implicitDefEqProofs [hL1,hL2,c1,c2,c1',c2']
 have c1':¬(16:Int) < (l.length:Int):=by omega
 have c2':¬(16:Int) < (more.length:Int):=by omega
 have hc1:=hv1.one
 have hc2:=hv2.one
 simp -implicitDefEqProofs [hL1,hL2,c1,c2,c1',c2',buildSliceR,reps,hc1,hc2]
 have S0:=CSt.new h0
 obtain⟨s,hss⟩:∃s,s=h0.next:=⟨_,rfl⟩
 obtain⟨H1,hH1⟩:∃H1,H1=h0.push (.row 0 false [.nilp,.int .u64 0,.nilm,.nilm,.int .i64 0,.nilm,.nilm,.int .u64 0,.int .i64 0]):=⟨_,rfl⟩
 obtain⟨q,hqq⟩:∃q,q=H1.next:=⟨_,rfl⟩
 obtain⟨H2,hH2⟩:∃H2,H2=H1.push (.row 1 false [v1,v2]):=⟨_,rfl⟩
 have n1:H1.next=h0.next+1:=by rw [hH1];rfl
 have o1:Old h0 H1:=by rw [hH1];exact(Old.refl h0).push _
 have o2:Old H1 H2:=by rw [hH2];exact(Old.refl H1).push _
 have hq2:H2.get q=some (.row 1 false [v1,v2]):=by rw [hH2,hqq,get_push_next]
 rw [←hH1]at S0
 rw [←hss]at S0
 rw [←hH1,←hss,show s+1=q by omega,←hH2]
 have S2:St22 h0 H2 s (fun o=>o=s) CV.nil 1 0 0:=⟨S0.old o2,PI.new,rfl,Nat.le_refl _,o1.trans o2,fun o ho=>by rw [ho,hss];exact Nat.le_refl _⟩
 obtain⟨I,hI⟩:∃I:Nat→List AVal→AHeap→Prop,I=fun m env h'=>∃(k:Nat) (O:Nat→Prop) (D:CV) (N T:Nat),k+m=2∧St22 h0 h' s O D N k T∧N≤1+k * 16384∧T≤k * 16384∧(∀j,k < j→lookI D.deeds (1,j)=none)∧h'.get q=some (.row 1 false [v1,v2])∧q < h'.next∧¬O q∧
  env=(.dead :: .dead :: .dead :: .dead :: .dead :: .ptr s 0 :: .int .u32 (N:Nat) :: .str (shownA D.A) :: .dead :: .dead :: .dead :: .dead :: .dead :: .dead :: .dead :: .dead :: .dead :: .dead :: .dead :: .dead :: .dead :: .dead :: .dead :: .dead :: .dead :: .dead :: .dead :: .dead :: .dead :: .dead :: .dead :: .dead :: .dead :: .dead :: .dead :: .dead :: .dead :: .dead :: .dead :: .dead :: .dead :: .dead :: .sl q 0 2 :: .int .i64 2 :: .int .i64 (k:Nat) :: .dead :: .dead :: .dead :: .dead :: .dead :: .dead :: .dead :: .dead :: .dead :: .dead :: .dead :: .dead :: .dead :: .dead :: .dead :: .dead :: .dead :: .dead :: .dead :: .dead :: .dead :: .dead :: .dead :: .dead :: .dead :: .dead :: .dead :: .dead :: .dead :: .dead :: .dead :: .dead :: .dead :: .dead :: .dead :: .dead :: .dead :: .dead :: .dead :: .dead :: .dead :: .dead :: .dead :: .dead :: .dead :: .dead :: .dead :: .dead :: .dead :: .dead :: .dead :: .dead :: .dead :: .dead :: .dead :: .dead :: .dead :: .dead :: .dead :: .dead :: .dead :: .dead :: .dead :: .dead :: .dead :: .dead :: .dead :: .dead :: .dead :: .dead :: .dead :: .dead :: .dead :: .dead :: []):=⟨_,rfl⟩
 refine loop_of I ?_ 2 (by rw [hI];exact⟨0,_,CV.nil,1,0,rfl,S2,Nat.le_refl _,Nat.le_refl _,fun j _=>rfl,hq2,by rw [hH2];simp;omega,by show ¬q=s;omega,rfl⟩)
 intro m env h' hi
 rw [hI]at hi
 obtain⟨k,O,D,N,T,hkm,S,hN,hT,hdn,hgq,hqn,hqO,rfl⟩:=hi
 by_cases hk:k < 2
 · obtain⟨vk,L,hvk,hLl,hLt,hA⟩:∃vk L,Eds (cfgR ro) h0 vk L∧L.length≤16∧(∀e∈L,e.text.length≤300)∧nthR [v1,v2] k=.ok vk:=by
    rcases(show k=0∨k=1 by omega)with rfl | rfl
    · exact⟨v1,l,hv1,by omega,ht1,rfl⟩
    · exact⟨v2,more,hv2,by omega,ht2,rfl⟩
   have hik:idxNat (.int .i64 (k:Int)) 2=.ok k:=ix_nat hk
   have hkI:(k:Int) < 2:=by omega
   have w1:IntKind.i64.wrap ((k:Int)+1)=((k+1:Nat):Int):=by rw [w64 (by omega) (by omega)];omega
   have hvh:=hvk.old S.old
   simp -implicitDefEqProofs [hk,hkI,hik,hgq,hA,same_self]
   refine refs7 hvh (by omega) (fun x h1 oa hx=>?_)
   have Sa:=S.oldH oa
   simp -implicitDefEqProofs
   have hslen:(shownA D.A).length≤D.A.length:=by rw [←shL_len];exact List.length_filter_le _ _
   have hlen:=S.len
   refine all13 (l:=L) (len:=((shownA D.A).length:Int)) hx.sl hLt (by omega) (fun a b c hall=>?_)
   by_cases hc:c=0
   rotate_left
   · simp -implicitDefEqProofs [hc]
   subst hc
   have hL0:0 < L.length:=by
    rcases Nat.eq_zero_or_pos L.length with h | h
    · unfold allS at hall;rw [if_pos h]at hall;simp at hall
    · exact h
   have hgo:allGo L ((shownA D.A).length:Int) 0 0=(a,b,0):=by
    unfold allS at hall
    rw [if_neg (by omega),if_neg (by omega)]at hall
    exact hall
   obtain⟨k1,hk1⟩:∃k1,k1=k+1:=⟨_,rfl⟩
   have wc1:IntKind.u32.wrap ((k:Int)+1)=(k1:Int):=by rw [wrap32,Int.emod_eq_of_lt (by omega) (by omega)];omega
   have wc2:IntKind.u64.wrap ((k:Int)+1)=(k1:Int):=by rw [wrap64,Int.emod_eq_of_lt (by omega) (by omega)];omega
   obtain⟨t,htx⟩:∃t:TxV,t=⟨1,k1,k1,0⟩:=⟨_,rfl⟩
   have ht1:t.r=1∧t.clock=k1∧t.id=(1,k1):=by rw [htx];exact⟨rfl,rfl,rfl⟩
   have hbeg:=fun K:AVal→AHeap→Prop=>begin_ev (ro:=ro) Sa.C (t:=t) (v:=.nils) (u:=false) (by rw [ht1.2.2];exact hdn k1 (by omega)) (fun K hK=>undo_nil_ev hK) (Q:=K)
   have htA:txA t .nils=.agg [.int .u16 1,.int .u32 (k1:Nat),.int .u64 (k1:Nat),.int .i64 0,.nils]:=by rw [htx];rfl
   rw [htA]at hbeg
   simp -implicitDefEqProofs [w1,wc1,wc2]
   refine hbeg _ (fun h2 O2 C2 P2=>?_)
   obtain⟨ob,hob⟩:=P2.toOld Sa.old Sa.own
   have hbI:=S.I.begin t.id false t.clock
   have hvh2:=hvk.old ob
   have hL2:∀h3,Old h0 h3→lenR (cfgR ro) h3 22 vk=.ok (.int .i64 (L.length:Nat)):=fun h3 o3=>by have:=(hvk.old o3).lenR (t:=22) un22;simpa using this
   have hX2:∀i,i < L.length→indexAddrR Tryz.prog 22 vk (.int .i64 (i:Int))=.ok (elp vk 5 i):=fun i hi=>hvk.idx un22 sz53 (by simpa using hi)
   have hA2:∀h3,Old h0 h3→∀i (hi:i < L.length),loadR (cfgR ro) h3 53 (elp vk 5 i)=.ok (.agg L[i].cells):=fun h3 o3 i hi=>(hvk.old o3).load (Eds.at hi) ag53 sz53
   have hq2':h2.get q=some (.row 1 false [v1,v2]):=by rw [P2.keep q (Nat.lt_of_lt_of_le hqn oa.1) hqO,oa.2 q hqn];exact hgq
   have hqO2:¬O2 q:=fun h=>by
    rcases P2.own q h with h5 | h5
    · exact hqO h5
    · have:=oa.1;omega
   have hqn2:q < h2.next:=Nat.lt_of_lt_of_le hqn (Nat.le_trans oa.1 P2.nx)
   simp -implicitDefEqProofs [hL2 h2 ob]
   obtain⟨J,hJ⟩:∃J:Nat→List AVal→AHeap→Prop,J=fun m2 env h3=>∃(i:Nat) (O3:Nat→Prop) (D3:CV) (N3 T3:Nat),i+m2=L.length∧St22 h0 h3 s O3 D3 N3 k1 T3∧N3≤N+i * 1024∧N≤N3∧T3≤T+i * 1024∧(∃d,lookI D3.deeds (1,k1)=some d)∧(∀j,k1 < j→lookI D3.deeds (1,j)=none)∧h3.get q=some (.row 1 false [v1,v2])∧q < h3.next∧¬O3 q∧
    allGo (L.drop i) ((shownA D3.A).length:Int) ((N3 - N:Nat):Int) i=(a,b,0)∧
    env=(.dead :: .dead :: .dead :: .dead :: .dead :: .ptr s 0 :: .int .u32 (N3:Nat) :: .str (shownA D3.A) :: .dead :: vk :: .int .i64 a :: .dead :: .dead :: .cell [.int .u16 1,.int .u32 (k1:Nat),.int .u64 (k1:Nat),.int .i64 0,.nils] :: .dead :: .dead :: .dead :: .dead :: .dead :: .dead :: .dead :: .dead :: .dead :: .dead :: .dead :: .dead :: .dead :: .dead :: .dead :: .dead :: .dead :: .dead :: .dead :: .dead :: .dead :: .dead :: .dead :: .dead :: .dead :: .dead :: .dead :: .dead :: .sl q 0 2 :: .int .i64 2 :: .int .i64 (k:Nat) :: .dead :: .dead :: .dead :: .dead :: .dead :: .dead :: .dead :: .dead :: .dead :: .dead :: .dead :: .dead :: .dead :: .dead :: .dead :: .dead :: .dead :: .dead :: .dead :: .dead :: .dead :: .dead :: .dead :: .dead :: vk :: .int .i64 (L.length:Nat) :: .int .i64 (i:Nat) :: .dead :: .dead :: .dead :: .dead :: .dead :: .dead :: .dead :: .dead :: .dead :: .dead :: .dead :: .dead :: .dead :: .dead :: .dead :: .dead :: .dead :: .dead :: .dead :: .dead :: .dead :: .dead :: .dead :: .dead :: .dead :: .dead :: .dead :: .dead :: .dead :: .dead :: .dead :: .dead :: .dead :: .dead :: .dead :: .dead :: .dead :: .dead :: .dead :: .dead :: .dead :: .dead :: .dead :: .dead :: .dead :: .dead :: .dead :: []):=⟨_,rfl⟩
   refine loop_of J ?_ L.length (by
    rw [hJ]
    refine⟨0,O2,beginD D t.id false t.clock,N,T,by omega,⟨C2,hbI.monoK (by omega),S.len,S.el,ob,hob⟩,by omega,Nat.le_refl _,by omega,⟨⟨0,[],false⟩,?_⟩,fun j hj=>?_,hq2',hqn2,hqO2,?_,rfl⟩
    · show lookI (putI D.deeds t.id _) (1,k1)=_
      rw [look_put,ht1.2.2,if_pos rfl]
    · show lookI (putI D.deeds t.id _) (1,j)=none
      rw [look_put,ht1.2.2,if_neg (fun e=>by simp at e;omega)]
      exact hdn j (by omega)
    · rw [Nat.sub_self];exact hgo)
   intro m2 env h3 hj
   rw [hJ]at hj
   obtain⟨i,O3,D3,N3,T3,him,S3,b1,b2,b3,b4,b5,b6,b7,b8,b9,rfl⟩:=hj
   by_cases hi:i < L.length
   · have hgi:=List.getElem?_eq_getElem hi
     obtain⟨e,hee⟩:∃e,e=L[i]:=⟨_,rfl⟩
     have hA3:=hA2 h3 S3.old i hi
     rw [←hee]at hA3 hgi
     obtain⟨a',b',c',hch⟩:∃a' b' c',chk e ((shownA D3.A).length:Int)=(a',b',c'):=⟨_,_,_,rfl⟩
     rw [hee]at hch
     rw [allGo_step hi hch]at b9
     by_cases hc0:c'=0
     rotate_left
     · rw [if_pos hc0]at b9
       simp at b9
       exact(hc0 b9.2.2).elim
     subst hc0
     rw [if_neg (by simp)]at b9
     rw [←hee]at hch
     have hcan:=can_of hch
     have hdl:=(chk_ok hch).1
     have hee2:e.cells=[.int .i64 e.kind,.int .i64 e.at_,.int .i64 e.to_,.int .i64 e.dest,.str e.text]:=rfl
     have w2:IntKind.i64.wrap ((i:Int)+1)=((i+1:Nat):Int):=by rw [w64 (by omega) (by omega)];omega
     simp -implicitDefEqProofs [hi,hX2 i hi,hA3,hee2,same_self]
     refine edit_ev hro S3.C S3.I (t:=t) (v:=.nils) (e:=e) ht1.1 (by omega) (by have:=S3.len;omega) S3.len (by rw [ht1.2.2];exact b4) hch (by omega) (by omega) (fun kd x2 n2 tx2 sv sq h4 bn hbn hbn2 o4 hop=>?_)
     rw [htA]at hop
     simp only [opA]at hop
     simp -implicitDefEqProofs [opA,same_self]
     refine hop _ (fun h5 O5 D5 C5 P5 R5 hat=>?_)
     have w3:IntKind.u32.wrap ((bn:Nat):Int)=((bn:Nat):Int):=by rw [wrap32,Int.emod_eq_of_lt (by omega) (by omega)]
     obtain⟨N5,hN5⟩:∃N5,N5=N3+bn:=⟨_,rfl⟩
     have w4:IntKind.u32.wrap ((N3:Int)+(bn:Int))=(N5:Int):=by rw [wrap32,Int.emod_eq_of_lt (by omega) (by omega)];omega
     simp -implicitDefEqProofs
     refine hat _ ?_
     simp -implicitDefEqProofs [w3,w4]
     obtain⟨o5,ho5⟩:=P5.toOld (S3.old.trans o4) S3.own
     refine refs7 (hvk.old o5) (by omega) (fun y h6 o6 hy=>?_)
     simp -implicitDefEqProofs
     have hyX:indexAddrR Tryz.prog 45 y (.int .i64 (i:Int))=.ok (elp y 5 i):=(Mine.sl (c:=cfgR ro) hy).idx un45 sz64 (by simpa using hi)
     have hyA:loadR (cfgR ro) h6 64 (elp y 5 i)=.ok (.agg e.cells):=by have:=(Mine.sl (c:=cfgR ro) hy).load (Eds.at hi) ag64 sz64;rw [←hee]at this;exact this
     have hsl3:(shownA D3.A).length≤D3.A.length:=by rw [←shL_len];exact List.length_filter_le _ _
     have hlen3:=S3.len
     simp -implicitDefEqProofs [hyX,hyA]
     refine do9 e (by omega) hcan _ ?_
     simp -implicitDefEqProofs
     refine ctext_ev (C5.old o6) (fun h7 o7=>?_)
     obtain⟨o67,hbn'⟩:Old h0 h7∧b'=(bn:Nat):=⟨(o5.trans o6).trans o7,hbn⟩
     have hq5:h7.get q=some (.row 1 false [v1,v2]):=by
      rw [o7.2 q (Nat.lt_of_lt_of_le b7 (Nat.le_trans o4.1 (Nat.le_trans P5.nx o6.1))),o6.2 q (Nat.lt_of_lt_of_le b7 (Nat.le_trans o4.1 P5.nx)),P5.keep q (Nat.lt_of_lt_of_le b7 o4.1) b8,o4.2 q b7]
      exact b6
     have hqn5:q < h7.next:=Nat.lt_of_lt_of_le b7 (Nat.le_trans o4.1 (Nat.le_trans P5.nx (Nat.le_trans o6.1 o7.1)))
     have hqO5:¬O5 q:=fun h=>by
      rcases P5.own q h with h | h
      · exact b8 h
      · have:=o4.1;omega
     have htx5:=R5.tx
     have hlen5:D5.A.length+1=N5:=by rw [R5.len];omega
     have hel5:=R5.el
     have hel3:=S3.el
     have hR5l:=R5.len
     simp -implicitDefEqProofs [htx5,w2]
     refine .mk (m:=m2 - 1) (by omega) ?_
     rw [hJ]
     have hI5:PF N5 k1 (T3+1024) D5:=by have:=R5.I;rw [←hN5,ht1.2.1]at this;exact this
     refine⟨i+1,O5,D5,N5,T3+1024,by omega,⟨(C5.old o6).old o7,hI5,hlen5,by omega,o67,ho5⟩,by omega,by omega,by omega,?_,fun j hj=>(R5.dom _).2 (b5 j hj),hq5,hqn5,hqO5,?_,?_⟩
     · rcases hd:lookI D5.deeds (1,k1)with _ | d
       · obtain⟨d,hd'⟩:=b4
         rw [(R5.dom _).1 hd]at hd';cases hd'
       · exact⟨d,rfl⟩
     · rw [htx5,←hdl,show((N5 - N:Nat):Int)=((N3 - N:Nat):Int)+b' by rw [hbn'];omega]
       exact b9
     · rw [←htx5];rfl
   · have hiL:i=L.length:=by omega
     have hlen3:=S3.len
     have hel3:=S3.el
     have ha:a=((N3 - N:Nat):Int):=by
      rw [hiL,List.drop_length]at b9
      simp only [allGo,Prod.mk.injEq]at b9
      exact b9.1.symm
     obtain⟨n3,hn3⟩:∃n3,n3=D3.A.length:=⟨_,rfl⟩
     obtain⟨a3,ha3⟩:∃a3,a3=N3 - N:=⟨_,rfl⟩
     rw [←hn3]at hlen3 hel3
     rw [←ha3]at ha
     have w5:IntKind.u32.wrap ((N3:Int) - 1)=(n3:Int):=by rw [wrap32,Int.emod_eq_of_lt (by omega) (by omega)];omega
     have w6:IntKind.i64.wrap (n3:Int)=(n3:Int):=w64 (by omega) (by omega)
     have e1:¬(n3:Int) < (D3.elems:Int):=by omega
     have e2:¬(n3:Int) < (a3:Int):=by omega
     simp -implicitDefEqProofs [hiL]
     refine csize_ev S3.C (fun r hr1 hr2=>?_)
     rw [←hn3]
     simp -implicitDefEqProofs [w5,w6,e1,e2,ha]
     refine .mk (m:=m - 1) (by omega) ?_
     rw [hI]
     exact⟨k1,O3,D3,N3,T3,by omega,S3,by omega,by omega,b5,b6,b7,b8,by rw [w1,←hk1]⟩
 · have hk2:k=2:=by omega
   subst hk2
   simp -implicitDefEqProofs
end
end Go.Proofs.YtlhlbamcgopiiaaGreatDoor
