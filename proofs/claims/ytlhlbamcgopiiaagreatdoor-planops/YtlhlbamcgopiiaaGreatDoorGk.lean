/-
  A part of the proof of PlanOps, over the seat YtlhlbamcgopiiaaGreatDoor: for every input the law returns true, and the input reads as it did.
-/
import Derived.Test.YtlhlbamcgopiiaaGreatDoorGj
import Derived.Test.YtlhlbamcgopiiaaGreatDoorGi
set_option linter.all false
set_option linter.all false
set_option maxRecDepth 100000
set_option maxHeartbeats 4000000
namespace Go.Proofs.YtlhlbamcgopiiaaGreatDoor
open Go Go.RowKit Go.Proofs
theorem eqMq {P:Program} {h:AHeap} {a b q:Nat}:eqFlat P h (.map a b) (.map q) .nilm=.ok false:=rfl
theorem eqMn {P:Program} {h:AHeap} {a b:Nat}:eqFlat P h (.map a b) .nilm .nilm=.ok true:=rfl
def offD (D:CV) (k:IdT):Bool:=match lookI D.deeds k with
 | some d=>decide (0 < d.undone)
 | none=>false
def openD (D:CV) (k:IdT):Bool:=match lookI D.deeds k with
 | some d=>!d.undoes
 | none=>false
section
variable {ro:Nat→Option (List AVal)} {h:AHeap} {s:Nat} {col:Nat→Tg} {D:CV} {spm dm lm:AVal} {fs fd fl:IdT→AVal} {O:Nat→Prop}
theorem CStX.lookD (C:CStX h s col D spm dm lm fs fd fl) (k:IdT):∃v,lookupR (cfgR ro) h 35 dm (.agg [.int .u16 k.1,.int .u32 k.2]) false=.ok v∧
 ((lookI D.deeds k=none∧v=.nilp)∨∃d,lookI D.deeds k=some d∧v=fd k∧DeedOk h col k d v):=by
 have e:lookI (D.deeds.map fun p=>(p.1,fd p.1)) k=(lookI D.deeds k).map fun _=>fd k:=look_map_ (fun j _=>fd j) k D.deeds
 refine⟨_,look_I mtD (C.mD.imp_right fun⟨q,e,_,_,g⟩=>⟨q,e,g⟩) k,?_⟩
 rw [e]
 cases hd:lookI D.deeds k with
 | none=>exact .inl ⟨rfl,rfl⟩
 | some d=>exact .inr ⟨d,rfl,rfl,C.de k d hd⟩
theorem CStX.lookL (C:CStX h s col D spm dm lm fs fd fl) (k:IdT):∃v,lookupR (cfgR ro) h 36 lm (.agg [.int .u16 k.1,.int .u32 k.2]) false=.ok v∧
 ((lookI D.lives k=none∧v=.nilp)∨∃d,lookI D.lives k=some d∧v=fl k∧LifeOk h col k d v):=by
 have e:lookI (D.lives.map fun p=>(p.1,fl p.1)) k=(lookI D.lives k).map fun _=>fl k:=look_map_ (fun j _=>fl j) k D.lives
 refine⟨_,look_I mtL (C.mL.imp_right fun⟨q,e,_,_,g⟩=>⟨q,e,g⟩) k,?_⟩
 rw [e]
 cases hd:lookI D.lives k with
 | none=>exact .inl ⟨rfl,rfl⟩
 | some d=>exact .inr ⟨d,rfl,rfl,C.li k d hd⟩
theorem CStX.lookS (C:CStX h s col D spm dm lm fs fd fl) (k:IdT):lookupR (cfgR ro) h 32 spm (.agg [.int .u16 k.1,.int .u32 k.2]) false=.ok (spV D fs k):=
 look_I mtS (C.mS.imp_right fun⟨q,e,_,_,g⟩=>⟨q,e,g⟩) k
theorem knows_ev (C:CSt h s O D) {k:IdT} {Q:AVal→AHeap→Prop} (hq:Q (.bool (lookI D.deeds k).isSome) h):Ev (cfgR ro) 78 [.ptr s 5,idA k.1 k.2] h Q:=by
 obtain⟨col,spm,dm,lm,fs,fd,fl,rfl,C⟩:=C
 obtain⟨hcs,p,sd,m,hr⟩:=C.row
 obtain⟨v,L,hv⟩:=C.lookD (ro:=ro) k
 refine Ev.wp rfl rfl Tryz.func78 rfl ?_
 rcases hv with ⟨e,rfl⟩ | ⟨d,e,_,pd,t,rfl,_⟩ <;> rw [e]at hq <;> simp -implicitDefEqProofs [Tryz.f78,idA,hr,L] <;> exact hq
theorem off_ev (C:CSt h s O D) {k:IdT} {Q:AVal→AHeap→Prop} (hq:Q (.bool (offD D k)) h):Ev (cfgR ro) 79 [.ptr s 5,idA k.1 k.2] h Q:=by
 obtain⟨col,spm,dm,lm,fs,fd,fl,rfl,C⟩:=C
 obtain⟨hcs,p,sd,m,hr⟩:=C.row
 obtain⟨v,L,hv⟩:=C.lookD (ro:=ro) k
 refine Ev.wp rfl rfl Tryz.func79 rfl ?_
 unfold offD at hq
 rcases hv with ⟨e,rfl⟩ | ⟨d,e,_,pd,t,rfl,_,_,hp,_⟩ <;> rw [e]at hq
 · simp -implicitDefEqProofs [Tryz.f79,idA,hr,L];exact hq
 · simp -implicitDefEqProofs [Tryz.f79,idA,hr,L,hp];exact hq
theorem thas_ev (C:CSt h s O D) {k:IdT} {Q:AVal→AHeap→Prop} (hq:Q (.bool (lookI D.lives k).isSome) h):Ev (cfgR ro) 100 [.ptr s 5,idA k.1 k.2] h Q:=by
 obtain⟨col,spm,dm,lm,fs,fd,fl,rfl,C⟩:=C
 obtain⟨hcs,p,sd,m,hr⟩:=C.row
 obtain⟨v,L,hv⟩:=C.lookL (ro:=ro) k
 refine Ev.wp rfl rfl Tryz.func100 rfl ?_
 rcases hv with ⟨e,rfl⟩ | ⟨d,e,_,pd,t,rfl,_⟩ <;> rw [e]at hq <;> simp -implicitDefEqProofs [Tryz.f100,idA,hr,L] <;> exact hq
structure Ei (h:AHeap) (v:AVal) (i:Nat) (a:IdT):Prop where
 x:indexAddrR Tryz.prog 113 v (.int .i64 (i:Nat))=.ok (elp v 2 i)
 o:∀d,addOff (elp v 2 i) d=.ok (elpo v 2 i d)
 l:loadR (cfgR ro) h 55 (elp v 2 i)=.ok (.agg [.int .u16 a.1,.int .u32 a.2])
theorem Ei.of {v:AVal} {l:List IdT} (hs:Sl (cfgR ro) h 2 v (l.map idc)) {i:Nat} {a:IdT} (ha:l[i]?=some a):Ei (ro:=ro) h v i a:=by
 have hi:i < (l.map idc).length:=by have:=(List.getElem?_eq_some_iff.1 ha).1;simpa using this
 have he:(l.map idc)[i]?=some (idc a):=by rw [List.getElem?_map,ha];rfl
 exact⟨hs.idx un113 sz55 hi,fun d=>elp_off hs hi,hs.load he ag55 sz55⟩
theorem lenI {v:AVal} {l:List IdT} (hs:Sl (cfgR ro) h 2 v (l.map idc)):lenR (cfgR ro) h 113 v=.ok (.int .i64 (l.length:Nat)):=by have:=hs.lenR (t:=113) un113;simpa using this
theorem indexI_ev {v:AVal} {l:List IdT} {a:IdT} (hs:Sl (cfgR ro) h 2 v (l.map idc)) (hl:l.length < 2 ^ 60) {Q:AVal→AHeap→Prop} (hq1:∀i:Nat,a∈l→Q (.int .i64 i) h) (hq2:a ∉ l→Q (.int .i64 (-1)) h):Ev (cfgR ro) 191 [v,idA a.1 a.2] h Q:=by
 refine Ev.wp rfl rfl Tryz.func191 rfl ?_
 have hL:=lenI hs
 simp -implicitDefEqProofs [Tryz.f191,idA,hL]
 obtain⟨I,hI⟩:∃I:Nat→List AVal→AHeap→Prop,I=fun m env h'=>h'=h∧∃i:Nat,i+m=l.length∧(∀(j:Nat) (b:IdT),j < i→l[j]?=some b→b≠a)∧
  env=(v :: .dead :: .dead :: .cell [.int .u16 a.1,.int .u32 a.2] :: .dead :: .dead :: .dead :: .int .i64 (l.length:Nat) :: .int .i64 (i:Nat) :: .dead :: .dead :: .dead :: .dead :: .dead :: .dead :: .dead :: .dead :: .dead :: .dead :: []):=⟨_,rfl⟩
 refine loop_of I ?_ l.length (by rw [hI];exact⟨rfl,0,by omega,fun j b hj=>by omega,rfl⟩)
 intro m env h' hi
 rw [hI]at hi
 obtain⟨rfl,i,him,hno,rfl⟩:=hi
 by_cases hlt:i < l.length
 · obtain⟨b,hb⟩:∃b,l[i]?=some b:=⟨_,List.getElem?_eq_getElem hlt⟩
   have E:=Ei.of hs hb
   have d1:decide ((i:Int) < (l.length:Int))=true:=decide_eq_true (by omega)
   have w1:IntKind.i64.wrap ((i:Int)+1)=((i+1:Nat):Int):=by rw [w64 (by omega) (by omega)];omega
   have e1:=eqID (ro:=ro) h' a.1 a.2 b.1 b.2
   by_cases c:a=b
   · have e2:a.1=b.1∧a.2=b.2:=by rw [c];exact⟨rfl,rfl⟩
     rw [decide_eq_true e2]at e1
     simp -implicitDefEqProofs [hlt,E.x,E.l,eqLID,e1,same_self]
     exact hq1 i (by rw [c];exact List.mem_of_getElem? hb)
   · have e2:¬(a.1=b.1∧a.2=b.2):=fun e=>c (Prod.ext e.1 e.2)
     rw [decide_eq_false e2]at e1
     simp -implicitDefEqProofs [hlt,E.x,E.l,eqLID,e1,same_self,w1]
     exact .mk (m:=m - 1) (by omega) (by rw [hI];exact⟨rfl,i+1,by omega,fun j b' hj hb'=>by
      by_cases e:j=i
      · subst e;rw [hb]at hb';cases hb';exact fun e=>c e.symm
      · exact hno j b' (by omega) hb',rfl⟩)
 · simp -implicitDefEqProofs [hlt]
   refine hq2 (fun hm=>?_)
   obtain⟨j,hj⟩:=List.mem_iff_getElem?.1 hm
   have:=(List.getElem?_eq_some_iff.1 hj).1
   exact hno j a (by omega) hj rfl
theorem containsI_ev {v:AVal} {l:List IdT} {a:IdT} (hs:Sl (cfgR ro) h 2 v (l.map idc)) (hl:l.length < 2 ^ 60) {Q:AVal→AHeap→Prop} (hq:Q (.bool (decide (a∈l))) h):Ev (cfgR ro) 164 [v,idA a.1 a.2] h Q:=by
 refine Ev.wp rfl rfl Tryz.func164 rfl ?_
 simp -implicitDefEqProofs [Tryz.f164,idA]
 refine indexI_ev (a:=a) hs hl (fun i hm=>?_) (fun hm=>?_)
 · rw [decide_eq_true hm]at hq
   simp -implicitDefEqProofs
   exact hq
 · rw [decide_eq_false hm]at hq
   simp -implicitDefEqProofs
   exact hq
end
end Go.Proofs.YtlhlbamcgopiiaaGreatDoor
set_option linter.all false
set_option maxRecDepth 100000
set_option maxHeartbeats 4000000
namespace Go.Proofs.YtlhlbamcgopiiaaGreatDoor
open Go Go.RowKit Go.Proofs
def touchD (D:CV) (k e:IdT):CV:=match lookI D.deeds k with
 | some d=>if e∈d.touched then D else { D with deeds:=putI D.deeds k { d with touched:=d.touched++[e] } }
 | none=>D
def letD (D:CV) (k e:IdT):CV:=match lookI D.lives e with
 | some d=>{ D with lives:=putI D.lives e { d with gone:=d.gone++[k] } }
 | none=>D
def turnD (D:CV) (k:IdT) (undo:Bool):CV:=match lookI D.deeds k with
 | some d=>{ D with deeds:=putI D.deeds k { d with undone:=if undo then d.undone+1 else d.undone - 1 } }
 | none=>D
def countD (D:CV) (e:IdT):Int:=match lookI D.lives e with
 | some l=>(if offD D l.made then 0 else 1) - ((l.gone.filter fun k=>!offD D k).length:Nat)
 | none=>0
section
variable {ro:Nat→Option (List AVal)} {h:AHeap} {s:Nat} {D:CV} {O:Nat→Prop}
theorem tknow_ev (C:CSt h s O D) {k:IdT} {u:Bool} (hk:lookI D.deeds k=none) {Q:AVal→AHeap→Prop} (hq:∀h' O',CSt h' s O' { D with deeds:=putI D.deeds k ⟨0,[],u⟩ }→Stp h O h' O'→Q (.int .i64 0) h'):Ev (cfgR ro) 59 [.ptr s 5,idA k.1 k.2,.bool u] h Q:=by
 obtain⟨col,spm,dm,lm,fs,fd,fl,rfl,C⟩:=C
 obtain⟨hcs,p,sd,m,hr⟩:=C.row
 refine Ev.wp rfl rfl Tryz.func59 rfl ?_
 have fin:∀(h1:AHeap) (col1:Nat→Tg) (q:Nat) (lm1:AVal),CStX h1 s col1 D spm (.map q) lm1 fs fd fl→Stp h (fun o=>col o≠.other) h1 (fun o=>col1 o≠.other)→
  Q (.int .i64 0) ((h1.push (.row 0 false [.int .i64 0,.nils,.bool u])).set q (.map (entI (putI (D.deeds.map fun x=>(x.1,fd x.1)) k (.ptr h1.next 0))))):=by
  intro h1 col1 q lm1 C1 P1
  obtain⟨q1,q2,q3⟩:=C1.dmq
  obtain⟨col2,C2,P2⟩:=C1.addDeed (H:=(h1.push (.row 0 false [.int .i64 0,.nils,.bool u])).set q (.map (entI (putI (D.deeds.map fun x=>(x.1,fd x.1)) k (.ptr h1.next 0))))) (p:=h1.next) (u:=u) hk (Nat.le_refl _) (by simp) (by rw [get_set_ne (by omega),get_push_next]) (get_set_self _ _ _) (fun o ho hn=>by rw [get_set_ne (Ne.symm hn),AHeap.get_push,if_neg (by omega)]) (by simp)
  exact hq _ _ ⟨col2,_,_,_,_,_,_,rfl,C2⟩ (P1.trans P2)
 by_cases hd:dm=.nilm
 · subst hd
   have hl:=C.nn.1 rfl
   subst hl
   obtain⟨p,sd,m,hr,hm⟩:=C.maps
   obtain⟨H,hH⟩:∃H,H=((((h.push (.map [])).push (.map [])).set s (.row 0 false [p,.int .u64 sd,m,spm,.int .i64 (D.nsp:Nat),.map h.next,.nilm,.int .u64 (D.clock:Nat),.int .i64 (D.elems:Nat)])).set s (.row 0 false [p,.int .u64 sd,m,spm,.int .i64 (D.nsp:Nat),.map h.next,.map (h.next+1),.int .u64 (D.clock:Nat),.int .i64 (D.elems:Nat)])):=⟨_,rfl⟩
   have hsn:s < h.next:=C.lt s (by rw [hcs];simp)
   have hrp:((h.push (.map [])).push (.map [])).get s=h.get s:=by rw [AHeap.get_push,if_neg (by simp;omega),AHeap.get_push,if_neg (by omega)]
   rw [hr]at hrp
   have hHs:H.get s=some (.row 0 false [p,.int .u64 sd,m,spm,.int .i64 (D.nsp:Nat),.map h.next,.map (h.next+1),.int .u64 (D.clock:Nat),.int .i64 (D.elems:Nat)]):=by rw [hH,get_set_self]
   obtain⟨col1,C1,P1⟩:=hm (H:=H) hHs (by rw [hH,get_set_ne (by omega),get_set_ne (by omega),AHeap.get_push,if_neg (by simp),get_push_next]) (by rw [hH,get_set_ne (by omega),get_set_ne (by omega)];exact get_push_next (h.push (.map [])) _) (fun o ho hn=>by rw [hH,get_set_ne (Ne.symm hn),get_set_ne (Ne.symm hn),AHeap.get_push,if_neg (by simp;omega),AHeap.get_push,if_neg (by omega)]) (by rw [hH];rfl)
   obtain⟨v,L,hv⟩:=C1.lookD (ro:=ro) k
   have hv:v=.nilp:=by
    rcases hv with ⟨_,e⟩ | ⟨d,e,_⟩
    · exact e
    · rw [hk]at e;cases e
   subst hv
   obtain⟨q1,q2,q3⟩:=C1.dmq
   have hp1:=put_I (ro:=ro) (mtD) (h:=H.push (.row 0 false [.int .i64 0,.nils,.bool u])) (q:=h.next) (by rw [AHeap.get_push,if_neg (by omega)];exact q3) k (.ptr H.next 0)
   simp -implicitDefEqProofs [Tryz.f59,idA,hr,eqMn,hrp]
   rw [←hH]
   simp -implicitDefEqProofs [hHs,L,hp1]
   exact⟨.inl (by decide +kernel),fin H col1 h.next _ C1 P1⟩
 · obtain⟨q,rfl⟩:∃q,dm=.map q:=by
    rcases C.mD with ⟨e,_⟩ | ⟨q,e,_⟩
    · exact(hd e).elim
    · exact⟨q,e⟩
   obtain⟨v,L,hv⟩:=C.lookD (ro:=ro) k
   have hv:v=.nilp:=by
    rcases hv with ⟨_,e⟩ | ⟨d,e,_⟩
    · exact e
    · rw [hk]at e;cases e
   subst hv
   obtain⟨q1,q2,q3⟩:=C.dmq
   have hp1:=put_I (ro:=ro) (mtD) (h:=h.push (.row 0 false [.int .i64 0,.nils,.bool u])) (q:=q) (by rw [AHeap.get_push,if_neg (by omega)];exact q3) k (.ptr h.next 0)
   simp -implicitDefEqProofs [Tryz.f59,idA,hr,eqMq,L,hp1]
   exact⟨.inl (by decide +kernel),fin h col q _ C (Stp.refl _ _)⟩
theorem touch_ev {col:Nat→Tg} {spm dm lm:AVal} {fs fd fl:IdT→AVal} (C:CStX h s col D spm dm lm fs fd fl) {k e:IdT} {d:Dl} (hd:lookI D.deeds k=some d) (hb:d.touched.length < 2 ^ 30) {Q:AVal→AHeap→Prop} (hq:∀h' col',CStX h' s col' (touchD D k e) spm dm lm fs fd fl→Stp h (fun o=>col o≠.other) h' (fun o=>col' o≠.other)→Q (.int .i64 0) h'):Ev (cfgR ro) 120 [.ptr s 5,idA k.1 k.2,idA e.1 e.2] h Q:=by
 obtain⟨hcs,p,sd,m,hr⟩:=C.row
 obtain⟨pd,t,qq,h2,t',rfl,e1,e2,e3,e4,col',C',P'⟩:=C.touch (e:=e) hd 8 (by omega)
 obtain⟨v,L,hv⟩:=C.lookD (ro:=ro) k
 obtain⟨rfl,hdk⟩:v=.ptr pd 0∧DeedOk h col k d v:=by
  rcases hv with ⟨e,_⟩ | ⟨d',e,hv,hk⟩
  · rw [hd]at e;cases e
  · rw [hd]at e;cases e;exact⟨hv.trans e1,hk⟩
 obtain⟨pd',t1,e5,hpn,_,e6,hO⟩:=hdk
 cases e5
 rw [e2]at e6
 cases e6
 unfold touchD at hq
 rw [hd]at hq
 simp only at hq
 refine Ev.wp rfl rfl Tryz.func120 rfl ?_
 have e4':=e4
 rw [e2]at e4'
 simp -implicitDefEqProofs [Tryz.f120,idA,hr,L,e2]
 refine containsI_ev (a:=e) hO.m.sl (by omega) ?_
 by_cases hm:e∈d.touched
 · rw [decide_eq_true hm]
   rw [if_pos hm]at hq
   simp -implicitDefEqProofs [e2,same_self]
   exact hq _ _ C (Stp.refl _ _)
 · rw [decide_eq_false hm]
   rw [if_neg hm]at hq
   have e2p:(h.push (.row 2 false (idc e))).get pd=some (.row 0 false [.int .i64 d.undone,t,.bool d.undoes]):=by rw [AHeap.get_push,if_neg (by omega)];exact e2
   have e3':=e3
   unfold idc at e3' e2p
   simp -implicitDefEqProofs [e2,buildSliceR,reps,e2p,e3',e4',same_self]
   exact⟨.inl (by decide +kernel),hq _ _ C' P'⟩
end
end Go.Proofs.YtlhlbamcgopiiaaGreatDoor
set_option linter.all false
set_option maxRecDepth 100000
set_option maxHeartbeats 4000000
namespace Go.Proofs.YtlhlbamcgopiiaaGreatDoor
open Go Go.RowKit Go.Proofs
section
variable {ro:Nat→Option (List AVal)} {h:AHeap} {s:Nat} {D:CV} {O:Nat→Prop} {col:Nat→Tg} {spm dm lm:AVal} {fs fd fl:IdT→AVal}
theorem touchD_lives (D:CV) (k e:IdT):(touchD D k e).lives=D.lives:=by
 unfold touchD
 split
 · split <;> rfl
 · rfl
def makeD (D:CV) (k e:IdT):CV:={ touchD D k e with lives:=putI D.lives e ⟨k,[]⟩ }
theorem makeD_eq (D:CV) (k e:IdT):makeD D k e={ touchD D k e with lives:=putI (touchD D k e).lives e ⟨k,[]⟩ }:=by
 unfold makeD;rw [touchD_lives]
theorem make_ev (C:CSt h s O D) {k e:IdT} {d:Dl} (hd:lookI D.deeds k=some d) (hl:lookI D.lives e=none) (hb:d.touched.length < 2 ^ 30) {Q:AVal→AHeap→Prop}
 (hq:∀h' O',CSt h' s O' (makeD D k e)→Stp h O h' O'→Q (.int .i64 0) h'):Ev (cfgR ro) 117 [.ptr s 5,idA k.1 k.2,idA e.1 e.2] h Q:=by
 obtain⟨col,spm,dm,lm,fs,fd,fl,rfl,C⟩:=C
 obtain⟨hcs,p,sd,m,hr⟩:=C.row
 obtain⟨v,L,hv⟩:=C.lookL (ro:=ro) e
 have hv:v=.nilp:=by
  rcases hv with ⟨_,e⟩ | ⟨d,e,_⟩
  · exact e
  · rw [hl]at e;cases e
 subst hv
 refine Ev.wp rfl rfl Tryz.func117 rfl ?_
 simp -implicitDefEqProofs [Tryz.f117,idA,hr,L]
 refine touch_ev C hd hb (fun h1 col1 C1 P1=>?_)
 obtain⟨hcs1,p1,sd1,m1,hr1⟩:=C1.row
 obtain⟨q,rfl⟩:∃q,lm=.map q:=by
  rcases C.mL with ⟨e,_⟩ | ⟨q,e,_⟩
  · have:=nil_deeds (C:=(by have:=C.nn.2 e;subst this;exact C))
    rw [this]at hd;cases hd
  · exact⟨q,e⟩
 obtain⟨q1,q2,q3⟩:=C1.lmq
 have hl1:lookI (touchD D k e).lives e=none:=by rw [touchD_lives];exact hl
 have hp1:=put_I (ro:=ro) (mtL) (h:=h1.push (.row 0 false [.int .u16 k.1,.int .u32 k.2,.nils])) (q:=q) (by rw [AHeap.get_push,if_neg (by omega)];exact q3) e (.ptr h1.next 0)
 simp -implicitDefEqProofs [hr1,hp1]
 obtain⟨col2,C2,P2⟩:=C1.addLife (H:=(h1.push (.row 0 false [.int .u16 k.1,.int .u32 k.2,.nils])).set q (.map (entI (putI ((touchD D k e).lives.map fun x=>(x.1,fl x.1)) e (.ptr h1.next 0))))) (p:=h1.next) (m:=k) hl1 (Nat.le_refl _) (by simp) (by rw [get_set_ne (by omega),get_push_next]) (get_set_self _ _ _) (fun o ho hn=>by rw [get_set_ne (Ne.symm hn),AHeap.get_push,if_neg (by omega)]) (by simp)
 exact⟨.inl (by decide +kernel),hq _ _ ⟨col2,_,_,_,_,_,_,rfl,by rw [makeD_eq];exact C2⟩ (P1.trans P2)⟩
theorem letgo_ev (C:CSt h s O D) {k e:IdT} {d:Dl} {l:Lf} (hd:lookI D.deeds k=some d) (hl:lookI D.lives e=some l) (hb:d.touched.length < 2 ^ 30) (hb2:l.gone.length < 2 ^ 30) {Q:AVal→AHeap→Prop}
 (hq:∀h' O',CSt h' s O' (letD (touchD D k e) k e)→Stp h O h' O'→Q (.int .i64 0) h'):Ev (cfgR ro) 65 [.ptr s 5,idA k.1 k.2,idA e.1 e.2] h Q:=by
 obtain⟨col,spm,dm,lm,fs,fd,fl,rfl,C⟩:=C
 obtain⟨hcs,p,sd,m,hr⟩:=C.row
 obtain⟨v,L,hv⟩:=C.lookL (ro:=ro) e
 obtain⟨pl,t,e1,e2⟩:∃pl t,v=.ptr pl 0∧fl e=.ptr pl 0:=by
  rcases hv with ⟨e,_⟩ | ⟨d,e,h1,pl,t,h2,_⟩
  · rw [hl]at e;cases e
  · exact⟨pl,t,h2,h1.symm.trans h2⟩
 subst e1
 refine Ev.wp rfl rfl Tryz.func65 rfl ?_
 simp -implicitDefEqProofs [Tryz.f65,idA,hr,L]
 refine touch_ev C hd hb (fun h1 col1 C1 P1=>?_)
 have hl1:lookI (touchD D k e).lives e=some l:=by rw [touchD_lives];exact hl
 obtain⟨pl',t1,qq,h2,t2,rfl,a1,a2,a3,a4,col2,C2,P2⟩:=C1.let_ (e:=k) hl1 8 (by omega)
 rw [e2]at a1;cases a1
 have hpn:pl < h1.next:=by
  obtain⟨pd',t1,e5,e7,_⟩:=C1.li e l hl1
  rw [e2]at e5;cases e5;exact e7
 have a2p:(h1.push (.row 2 false (idc k))).get pl=some (.row 0 false [.int .u16 l.made.1,.int .u32 l.made.2,t1]):=by rw [AHeap.get_push,if_neg (by omega)];exact a2
 have a3':=a3
 have a4':=a4
 rw [a2]at a4'
 unfold idc at a3' a2p
 simp -implicitDefEqProofs [a2,buildSliceR,reps,a2p,a3',a4']
 have e3:letD (touchD D k e) k e={ touchD D k e with lives:=putI (touchD D k e).lives e { l with gone:=l.gone++[k] } }:=by unfold letD;rw [hl1]
 exact⟨.inl (by decide +kernel),hq _ _ ⟨col2,_,_,_,_,_,_,rfl,by rw [e3];exact C2⟩ (P1.trans P2)⟩
theorem touchE_ev (C:CSt h s O D) {k e:IdT} {d:Dl} {l:Lf} (hd:lookI D.deeds k=some d) (hl:lookI D.lives e=some l) (hb:d.touched.length < 2 ^ 30) {Q:AVal→AHeap→Prop}
 (hq:∀h' O',CSt h' s O' (touchD D k e)→Stp h O h' O'→Q (.int .i64 0) h'):Ev (cfgR ro) 124 [.ptr s 5,idA k.1 k.2,idA e.1 e.2] h Q:=by
 obtain⟨col,spm,dm,lm,fs,fd,fl,rfl,C⟩:=C
 obtain⟨hcs,p,sd,m,hr⟩:=C.row
 obtain⟨v,L,hv⟩:=C.lookL (ro:=ro) e
 obtain⟨pl,e1⟩:∃pl,v=.ptr pl 0:=by
  rcases hv with ⟨e,_⟩ | ⟨d,e,h1,pl,t,h2,_⟩
  · rw [hl]at e;cases e
  · exact⟨pl,h2⟩
 subst e1
 refine Ev.wp rfl rfl Tryz.func124 rfl ?_
 simp -implicitDefEqProofs [Tryz.f124,idA,hr,L]
 refine touch_ev C hd hb (fun h1 col1 C1 P1=>?_)
 simp -implicitDefEqProofs
 exact hq _ _ ⟨col1,_,_,_,_,_,_,rfl,C1⟩ P1
structure Et (h:AHeap) (v:AVal) (i:Nat) (a:IdT):Prop where
 x:indexAddrR Tryz.prog 207 v (.int .i64 (i:Nat))=.ok (elp v 2 i)
 l:loadR (cfgR ro) h 70 (elp v 2 i)=.ok (.agg [.int .u16 a.1,.int .u32 a.2])
theorem Et.of {v:AVal} {l:List IdT} (hs:Sl (cfgR ro) h 2 v (l.map idc)) {i:Nat} {a:IdT} (ha:l[i]?=some a):Et (ro:=ro) h v i a:=by
 have hi:i < (l.map idc).length:=by have:=(List.getElem?_eq_some_iff.1 ha).1;simpa using this
 have he:(l.map idc)[i]?=some (idc a):=by rw [List.getElem?_map,ha];rfl
 exact⟨hs.idx un207 sz70 hi,hs.load he ag70 sz70⟩
theorem lenTx {v:AVal} {l:List IdT} (hs:Sl (cfgR ro) h 2 v (l.map idc)):lenR (cfgR ro) h 207 v=.ok (.int .i64 (l.length:Nat)):=by have:=hs.lenR (t:=207) un207;simpa using this
theorem tcount_ev (C:CSt h s O D) {e:IdT} (hb:∀l,lookI D.lives e=some l→l.gone.length < 2 ^ 30) {Q:AVal→AHeap→Prop} (hq:Q (.int .i64 (countD D e)) h):Ev (cfgR ro) 94 [.ptr s 5,idA e.1 e.2] h Q:=by
 have CC:=C
 obtain⟨col,spm,dm,lm,fs,fd,fl,rfl,C⟩:=C
 obtain⟨hcs,p,sd,m,hr⟩:=C.row
 obtain⟨v,L,hv⟩:=C.lookL (ro:=ro) e
 refine Ev.wp rfl rfl Tryz.func94 rfl ?_
 unfold countD at hq
 rcases hv with ⟨e1,rfl⟩ | ⟨l,e1,_,pl,t,rfl,_,_,hp,hO⟩ <;> rw [e1]at hq
 · simp -implicitDefEqProofs [Tryz.f94,idA,hr,L];exact hq
 simp only at hq
 have hgl:=hb l e1
 simp -implicitDefEqProofs [Tryz.f94,idA,hr,L,hp]
 refine off_ev CC (k:=l.made) ?_
 have sl:=hO.m.sl (c:=cfgR ro)
 have hL:=lenTx sl
 obtain⟨z,hz⟩:∃z:Int,z=if offD D l.made=true then 0 else 1:=⟨_,rfl⟩
 have hz01:0≤z∧z≤1:=by rw [hz];split <;> decide
 rw [←hz]at hq
 obtain⟨I,hI⟩:∃I:Nat→List AVal→AHeap→Prop,I=fun m env h'=>h'=h∧∃(i:Nat) (c:Nat),i+m=l.gone.length∧c=((l.gone.take i).filter fun k=>!offD D k).length∧
  env=(.ptr s 5 :: .dead :: .dead :: .dead :: .dead :: .dead :: .int .i64 (z - (c:Nat)) :: .dead :: .dead :: .dead :: .dead :: .dead :: .dead :: .dead :: .dead :: .dead :: .dead :: .dead :: .dead :: .dead :: .dead :: .dead :: .dead :: .dead :: .dead :: .dead :: .dead :: .dead :: .dead :: t :: .int .i64 (l.gone.length:Nat) :: .int .i64 (i:Nat) :: .dead :: .dead :: .dead :: .dead :: .dead :: .dead :: .dead :: .dead :: .dead :: .dead :: .dead :: []):=⟨_,rfl⟩
 cases hof:offD D l.made <;> simp -implicitDefEqProofs [hp,hL] <;>
 (refine loop_of I ?_ l.gone.length (by rw [hI];exact⟨rfl,0,0,by omega,rfl,by rw [hz,hof];simp [show IntKind.i64.wrap 1=1 by decide]⟩)
  intro m env h' hi
  rw [hI]at hi
  obtain⟨rfl,i,c,him,hc,rfl⟩:=hi
  have hcl:c≤l.gone.length:=by rw [hc];exact Nat.le_trans (List.length_filter_le _ _) (by rw [List.length_take];omega)
  by_cases hlt:i < l.gone.length
  · obtain⟨b,hb⟩:∃b,l.gone[i]?=some b:=⟨_,List.getElem?_eq_getElem hlt⟩
    have E:=Et.of sl hb
    have w1:IntKind.i64.wrap ((i:Int)+1)=((i+1:Nat):Int):=by rw [w64 (by omega) (by omega)];omega
    have htk:l.gone.take (i+1)=l.gone.take i++[b]:=by
     obtain⟨hl2,e2⟩:=List.getElem?_eq_some_iff.1 hb
     rw [List.take_succ_eq_append_getElem hl2,e2]
    simp -implicitDefEqProofs [hlt,E.x,E.l]
    refine off_ev CC (k:=b) ?_
    cases ho:offD D b
    · have w2:IntKind.i64.wrap (z - (c:Int) - 1)=z - ((c+1:Nat):Int):=by rw [w64 (by omega) (by omega)];omega
      simp -implicitDefEqProofs [w1,w2,same_self]
      exact .mk (m:=m - 1) (by omega) (by rw [hI];exact⟨rfl,i+1,c+1,by omega,by rw [htk,List.filter_append,List.length_append,←hc];simp [ho],rfl⟩)
    · simp -implicitDefEqProofs [w1,same_self]
      exact .mk (m:=m - 1) (by omega) (by rw [hI];exact⟨rfl,i+1,c,by omega,by rw [htk,List.filter_append,List.length_append,←hc];simp [ho],rfl⟩)
  · rw [List.take_of_length_le (by omega)]at hc
    rw [←hc]at hq
    simp -implicitDefEqProofs [hlt]
    exact hq)
end
end Go.Proofs.YtlhlbamcgopiiaaGreatDoor
set_option linter.all false
set_option maxRecDepth 100000
set_option maxHeartbeats 4000000
namespace Go.Proofs.YtlhlbamcgopiiaaGreatDoor
open Go Go.RowKit Go.Proofs
def addD (D:CV) (k:IdT) (x:Sp):CV:={ D with sp:=putI D.sp k (spOf D k++[x]),nsp:=D.nsp+1 }
def bestStep (D:CV) (b x:Sp):Sp:=if decide (klt b.1 x.1) && !offD D x.2 then x else b
def zeroSp:Sp:=((0,0,0),(0,0))
def bestD (D:CV) (k:IdT):Sp:=match spOf D k with
 | []=>zeroSp
 | y :: l=>l.foldl (bestStep D) y
section
variable {ro:Nat→Option (List AVal)} {h:AHeap} {s:Nat} {D:CV} {O:Nat→Prop}
structure Es (h:AHeap) (v:AVal) (i:Nat) (a:Sp):Prop where
 x:indexAddrR Tryz.prog 210 v (.int .i64 (i:Nat))=.ok (elp v 5 i)
 l:loadR (cfgR ro) h 178 (elp v 5 i)=.ok (.agg [.int .u64 a.1.1,.int .u16 a.1.2.1,.int .u32 a.1.2.2,.int .u16 a.2.1,.int .u32 a.2.2])
theorem Es.of {v:AVal} {l:List Sp} (hs:Sl (cfgR ro) h 5 v (l.map spc)) {i:Nat} {a:Sp} (ha:l[i]?=some a):Es (ro:=ro) h v i a:=by
 have hi:i < (l.map spc).length:=by have:=(List.getElem?_eq_some_iff.1 ha).1;simpa using this
 have he:(l.map spc)[i]?=some (spc a):=by rw [List.getElem?_map,ha];rfl
 exact⟨hs.idx un210 sz178 hi,hs.load he ag178 sz178⟩
theorem lenSp {v:AVal} {l:List Sp} (hs:Sl (cfgR ro) h 5 v (l.map spc)):lenR (cfgR ro) h 210 v=.ok (.int .i64 (l.length:Nat)):=by have:=hs.lenR (t:=210) un210;simpa using this
theorem clo_add {q e:Nat} {fz:Bool} {x y:Sp} (hg:h.get q=some (.row e fz [.int .u64 x.1.1,.int .u16 x.1.2.1,.int .u32 x.1.2.2,.int .u16 x.2.1,.int .u32 x.2.2])) (hne:y.1≠x.1) {Q:AVal→AHeap→Prop} (hq:Q (.bool false) h):
 Ev (cfgR ro) 163 [.agg [.int .u64 y.1.1,.int .u16 y.1.2.1,.int .u32 y.1.2.2,.int .u16 y.2.1,.int .u32 y.2.2],.ptr q 0] h Q:=by
 refine Ev.wp rfl rfl Tryz.func163 rfl ?_
 have e1:=eqKey (ro:=ro) h y.1.1 y.1.2.1 y.1.2.2 x.1.1 x.1.2.1 x.1.2.2
 have e2:¬(y.1.1=x.1.1∧y.1.2.1=x.1.2.1∧y.1.2.2=x.1.2.2):=fun⟨a,b,c⟩=>hne (Prod.ext a (Prod.ext b c))
 rw [decide_eq_false e2]at e1
 simp -implicitDefEqProofs [Tryz.f163,hg,eqLKey,e1]
 exact hq
theorem indexSp_ev {v:AVal} {l:List Sp} {x:Sp} {q e:Nat} {fz:Bool} (hs:Sl (cfgR ro) h 5 v (l.map spc)) (hl:l.length < 2 ^ 60) (hg:h.get q=some (.row e fz [.int .u64 x.1.1,.int .u16 x.1.2.1,.int .u32 x.1.2.2,.int .u16 x.2.1,.int .u32 x.2.2])) (hf:∀y∈l,y.1≠x.1) {Q:AVal→AHeap→Prop} (hq:Q (.int .i64 (-1)) h):
 Ev (cfgR ro) 190 [v,.func 163 [] [.ptr q 0]] h Q:=by
 refine Ev.wp rfl rfl Tryz.func190 rfl ?_
 have hL:=lenSp hs
 simp -implicitDefEqProofs [Tryz.f190,hL]
 obtain⟨I,hI⟩:∃I:Nat→List AVal→AHeap→Prop,I=fun m env h'=>h'=h∧∃i:Nat,i+m=l.length∧
  env=(v :: .func 163 [] [.ptr q 0] :: .dead :: .dead :: .dead :: .dead :: .dead :: .int .i64 (l.length:Nat) :: .int .i64 (i:Nat) :: .dead :: .dead :: .dead :: .dead :: .dead :: .dead :: .dead :: .dead :: .dead :: .dead :: []):=⟨_,rfl⟩
 refine loop_of I ?_ l.length (by rw [hI];exact⟨rfl,0,by omega,rfl⟩)
 intro m env h' hi
 rw [hI]at hi
 obtain⟨rfl,i,him,rfl⟩:=hi
 by_cases hlt:i < l.length
 · obtain⟨b,hb⟩:∃b,l[i]?=some b:=⟨_,List.getElem?_eq_getElem hlt⟩
   have E:=Es.of hs hb
   have w1:IntKind.i64.wrap ((i:Int)+1)=((i+1:Nat):Int):=by rw [w64 (by omega) (by omega)];omega
   simp -implicitDefEqProofs [hlt,E.x,E.l,same_self]
   refine clo_add hg (hf b (List.mem_of_getElem? hb)) ?_
   simp -implicitDefEqProofs [w1,same_self]
   exact .mk (m:=m - 1) (by omega) (by rw [hI];exact⟨rfl,i+1,by omega,rfl⟩)
 · simp -implicitDefEqProofs [hlt]
   exact hq
theorem containsSp_ev {v:AVal} {l:List Sp} {x:Sp} {q e:Nat} {fz:Bool} (hs:Sl (cfgR ro) h 5 v (l.map spc)) (hl:l.length < 2 ^ 60) (hg:h.get q=some (.row e fz [.int .u64 x.1.1,.int .u16 x.1.2.1,.int .u32 x.1.2.2,.int .u16 x.2.1,.int .u32 x.2.2])) (hf:∀y∈l,y.1≠x.1) {Q:AVal→AHeap→Prop} (hq:Q (.bool false) h):
 Ev (cfgR ro) 162 [v,.func 163 [] [.ptr q 0]] h Q:=by
 refine Ev.wp rfl rfl Tryz.func162 rfl ?_
 simp -implicitDefEqProofs [Tryz.f162]
 refine indexSp_ev hs hl hg hf ?_
 simp -implicitDefEqProofs
 exact hq
theorem sadd_ev (C:CSt h s O D) {k:IdT} {x:Sp} (hf:∀y∈spOf D k,y.1≠x.1) (hb:(spOf D k).length < 2 ^ 30) (hn:D.nsp < 2 ^ 60) {Q:AVal→AHeap→Prop} (hq:∀h' O',CSt h' s O' (addD D k x)→Stp h O h' O'→Q (.int .i64 0) h'):
 Ev (cfgR ro) 118 [.ptr s 3,idA k.1 k.2,.agg [.int .u64 x.1.1,.int .u16 x.1.2.1,.int .u32 x.1.2.2,.int .u16 x.2.1,.int .u32 x.2.2]] h Q:=by
 obtain⟨col,spm,dm,lm,fs,fd,fl,rfl,C⟩:=C
 refine Ev.wp rfl rfl Tryz.func118 rfl ?_
 obtain⟨h1,hh1⟩:∃h1,h1=h.push (.row 0 false [.int .u64 x.1.1,.int .u16 x.1.2.1,.int .u32 x.1.2.2,.int .u16 x.2.1,.int .u32 x.2.2]):=⟨_,rfl⟩
 have o1:Old h h1:=by rw [hh1];exact(Old.refl h).push _
 have hg1:h1.get h.next=some (.row 0 false [.int .u64 x.1.1,.int .u16 x.1.2.1,.int .u32 x.1.2.2,.int .u16 x.2.1,.int .u32 x.2.2]):=by rw [hh1,get_push_next]
 have n1:h1.next=h.next+1:=by rw [hh1];rfl
 have C1:=C.keep (h':=h1) (fun o ho=>o1.2 o (C.lt o ho)) o1.1
 obtain⟨hcs,p,sd,m,hr⟩:=C1.row
 have hsn:s < h.next:=C.lt s (by rw [hcs];simp)
 have w2:IntKind.i64.wrap ((D.nsp:Int)+1)=((D.nsp+1:Nat):Int):=by rw [w64 (by omega) (by omega)];omega
 have fin:∀(H:AHeap) (col2:Nat→Tg) (q:Nat) (v:AVal),CStX H s col2 D (.map q) dm lm fs fd fl→Stp h (fun o=>col o≠.other) H (fun o=>col2 o≠.other)→OwnS H col2 (.spots k) 5 ((spOf D k).map spc) v→col2 h.next=.other→h.next < H.next→
  ∃q2 h2 v',h2.get s=H.get s∧h2.get h.next=H.get h.next∧v'=.sl q2 0 ((spOf D k).length+1)∧appCore 5 24 (H.push (.row 5 false (spc x))) v 1 (spc x)=.ok (v',h2)∧mapUpdateR (cfgR ro) h2 32 (.map q) (.agg [.int .u16 k.1,.int .u32 k.2]) v'=.ok (h2.set q (.map (entI (putI (D.sp.map fun p=>(p.1,fs p.1)) k v'))))∧
  ∃p sd m,(h2.set q (.map (entI (putI (D.sp.map fun p=>(p.1,fs p.1)) k v')))).get s=some (.row 0 false [p,.int .u64 sd,m,.map q,.int .i64 (D.nsp:Nat),dm,lm,.int .u64 (D.clock:Nat),.int .i64 (D.elems:Nat)])∧
  Q (.int .i64 0) ((h2.set q (.map (entI (putI (D.sp.map fun p=>(p.1,fs p.1)) k v')))).set s (.row 0 false [p,.int .u64 sd,m,.map q,.int .i64 ((D.nsp+1:Nat):Int),dm,lm,.int .u64 (D.clock:Nat),.int .i64 (D.elems:Nat)])):=by
  intro H col2 q v C2 P2 hv hxo hxn
  obtain⟨q2,h2,v',e1,a1,a2,col3,C3,P3⟩:=C2.addSpot (x:=x) 24 (by omega) hv
  obtain⟨g1,g2,g3⟩:=C2.smq
  have hcs2:=C2.row.1
  obtain⟨p,sd,m,r1,C4,P4⟩:=C3.num (D.nsp+1) D.clock D.elems
  exact⟨q2,h2,v',a2 s (C2.lt s (by rw [hcs2];simp)) (by rw [hcs2];simp),a2 _ hxn (by rw [hxo];simp),e1,a1,put_I mtS (by rw [a2 q g1 (by rw [g2];simp)];exact g3) k v',p,sd,m,r1,hq _ _ ⟨col3,_,_,_,_,_,_,rfl,C4⟩ ((P2.trans P3).trans P4)⟩
 by_cases hnil:spm=.nilm
 · subst hnil
   obtain⟨p,sd,m,hr,hm⟩:=C1.smap
   obtain⟨H,hH⟩:∃H,H=(h1.push (.map [])).set s (.row 0 false [p,.int .u64 sd,m,.map h1.next,.int .i64 (D.nsp:Nat),dm,lm,.int .u64 (D.clock:Nat),.int .i64 (D.elems:Nat)]):=⟨_,rfl⟩
   have hrp:(h1.push (.map [])).get s=h1.get s:=by rw [AHeap.get_push,if_neg (by omega)]
   rw [hr]at hrp
   have hHs:H.get s=some (.row 0 false [p,.int .u64 sd,m,.map h1.next,.int .i64 (D.nsp:Nat),dm,lm,.int .u64 (D.clock:Nat),.int .i64 (D.elems:Nat)]):=by rw [hH,get_set_self]
   obtain⟨col2,C2,P2⟩:=hm (H:=H) hHs (by rw [hH,get_set_ne (by omega),get_push_next]) (fun o ho hn=>by rw [hH,get_set_ne (Ne.symm hn),AHeap.get_push,if_neg (by omega)]) (by rw [hH];rfl)
   have L:=C2.lookS (ro:=ro) k
   have hv:=C2.spv k
   have hxo:col2 h.next=.other:=Classical.byContradiction fun e=>by
    rcases P2.own _ e with h5 | h5
    · exact h5 (C.new (Nat.le_refl _))
    · omega
   obtain⟨q2,h2,v',b1,b2,rfl,a1,a2,p',sd',m',a3,hQ⟩:=fin H col2 _ _ C2 ((Stp.ofOld _ o1).trans P2) hv hxo (by have:=P2.nx;omega)
   rw [hHs]at b1
   have hHx:H.get h.next=some (.row 0 false [.int .u64 x.1.1,.int .u16 x.1.2.1,.int .u32 x.1.2.2,.int .u16 x.2.1,.int .u32 x.2.2]):=by rw [hH,get_set_ne (by omega),AHeap.get_push,if_neg (by omega)];exact hg1
   rw [hHx]at b2
   have b3:∀M,(h2.set h1.next M).get h.next=some (.row 0 false [.int .u64 x.1.1,.int .u16 x.1.2.1,.int .u32 x.1.2.2,.int .u16 x.2.1,.int .u32 x.2.2]):=fun M=>by rw [get_set_ne (by omega)];exact b2
   have hHx2:(H.push (.row 5 false (spc x))).get s=H.get s:=by rw [AHeap.get_push,if_neg (by have:=C2.lt s (by rw [C2.row.1];simp);omega)]
   rw [hHs]at hHx2
   have a1':=a1
   unfold spc at a1' hHx2
   simp -implicitDefEqProofs [Tryz.f118,idA]
   rw [←hh1]
   simp -implicitDefEqProofs [hr,eqMn,hrp]
   rw [←hH]
   simp -implicitDefEqProofs [hHs,L,same_self]
   refine containsSp_ev hv.m.sl (by omega) hHx hf ?_
   simp -implicitDefEqProofs [hHs,hHx,hHx2,buildSliceR,reps,a1',a2,a3,b1,b2,b3,w2,same_self]
   first | exact hQ | exact⟨.inl (by decide +kernel),hQ⟩
 · obtain⟨q,rfl⟩:∃q,spm=.map q:=by
    rcases C.mS with ⟨e,_⟩ | ⟨q,e,_⟩
    · exact(hnil e).elim
    · exact⟨q,e⟩
   have L:=C1.lookS (ro:=ro) k
   have hv:=C1.spv k
   obtain⟨q2,h2,v',b1,b2,rfl,a1,a2,p',sd',m',a3,hQ⟩:=fin h1 col _ _ C1 (Stp.ofOld _ o1) hv (C.new (Nat.le_refl _)) (by omega)
   rw [hr]at b1
   rw [hg1]at b2
   have hqn:=C.smq.1
   have b3:∀M,(h2.set q M).get h.next=some (.row 0 false [.int .u64 x.1.1,.int .u16 x.1.2.1,.int .u32 x.1.2.2,.int .u16 x.2.1,.int .u32 x.2.2]):=fun M=>by rw [get_set_ne (by omega)];exact b2
   have hHx2:(h1.push (.row 5 false (spc x))).get s=h1.get s:=by rw [AHeap.get_push,if_neg (by have:=C1.lt s (by rw [hcs];simp);omega)]
   rw [hr]at hHx2
   have a1':=a1
   unfold spc at a1' hHx2
   simp -implicitDefEqProofs [Tryz.f118,idA]
   rw [←hh1]
   simp -implicitDefEqProofs [hr,eqMq,L,same_self]
   refine containsSp_ev hv.m.sl (by omega) hg1 hf ?_
   simp -implicitDefEqProofs [hr,hg1,hHx2,buildSliceR,reps,a1',a2,a3,b1,b2,b3,w2,same_self]
   first | exact hQ | exact⟨.inl (by decide +kernel),hQ⟩
theorem own_ev (C:CSt h s O D) {k:IdT} {Q:AVal→AHeap→Prop} (hq:∀y b,(spOf D k=[]→y=zeroSp∧b=false)→(∀z l,spOf D k=z :: l→y=z∧b=true)→Q (.tuple [.agg [.int .u64 y.1.1,.int .u16 y.1.2.1,.int .u32 y.1.2.2,.int .u16 y.2.1,.int .u32 y.2.2],.bool b]) h):Ev (cfgR ro) 153 [.ptr s 3,idA k.1 k.2] h Q:=by
 obtain⟨col,spm,dm,lm,fs,fd,fl,rfl,C⟩:=C
 refine Ev.wp rfl rfl Tryz.func153 rfl ?_
 obtain⟨hcs,p,sd,m,hr⟩:=C.row
 have L:=C.lookS (ro:=ro) k
 have hv:=C.spv k
 have hL:=lenSp (hv.m.sl (c:=cfgR ro))
 cases hl:spOf D k with
 | nil=>
  rw [hl]at hL
  have:=hq zeroSp false (fun _=>⟨rfl,rfl⟩) (fun z l e=>by rw [hl]at e;cases e)
  simp -implicitDefEqProofs [Tryz.f153,idA,hr,L,hL]
  exact this
 | cons y l=>
  have E:=Es.of (i:=0) (a:=y) (hv.m.sl (c:=cfgR ro)) (by rw [hl];rfl)
  have Ex:=E.x
  rw [hl]at hL
  have:=hq y true (fun e=>by rw [hl]at e;cases e) (fun z l' e=>by rw [hl]at e;cases e;exact⟨rfl,rfl⟩)
  have d1:¬((l.length:Int)+1=0):=by omega
  rw [show((0:Nat):Int)=0 from rfl]at Ex
  simp -implicitDefEqProofs [Tryz.f153,idA,hr,L,hL,Ex,E.l,d1]
  exact this
theorem best_ev (C:CSt h s O D) {k:IdT} (hb:(spOf D k).length < 2 ^ 30) {Q:AVal→AHeap→Prop} (hq:∀h' b,Old h h'→Q (.tuple [.agg [.int .u64 (bestD D k).1.1,.int .u16 (bestD D k).1.2.1,.int .u32 (bestD D k).1.2.2,.int .u16 (bestD D k).2.1,.int .u32 (bestD D k).2.2],.bool b]) h'):Ev (cfgR ro) 102 [.ptr s 3,idA k.1 k.2,.func 79 [.ptr s 5] []] h Q:=by
 have CC:=C
 obtain⟨col,spm,dm,lm,fs,fd,fl,rfl,C⟩:=C
 refine Ev.wp rfl rfl Tryz.func102 rfl ?_
 obtain⟨hcs,p,sd,m,hr⟩:=C.row
 have L:=C.lookS (ro:=ro) k
 have hv:=C.spv k
 have sl:=hv.m.sl (c:=cfgR ro)
 have hL:=lenSp sl
 simp -implicitDefEqProofs [Tryz.f102,idA]
 refine own_ev CC (k:=k) (fun y0 b0 hy1 hy2=>?_)
 simp -implicitDefEqProofs [hr,L,hL,idA]
 obtain⟨I,hI⟩:∃I:Nat→List AVal→AHeap→Prop,I=fun m env h'=>Old h h'∧∃(i:Nat) (b:Sp),i+m=(spOf D k).length∧(i=0→b=y0)∧(∀y l,spOf D k=y :: l→0 < i→b=(l.take (i - 1)).foldl (bestStep D) y)∧
  env=(.dead :: .dead :: .func 79 [.ptr s 5] [] :: .dead :: .dead :: .dead :: .cell [.int .u64 0,.int .u16 0,.int .u32 0,.int .u16 0,.int .u32 0] :: .dead :: .cell [.int .u64 b.1.1,.int .u16 b.1.2.1,.int .u32 b.1.2.2,.int .u16 b.2.1,.int .u32 b.2.2] :: .bool b0 :: .dead :: .dead :: .dead :: .dead :: .dead :: .dead :: .dead :: .dead :: .dead :: .dead :: .dead :: .dead :: .dead :: spV D fs k :: .int .i64 ((spOf D k).length:Nat) :: .int .i64 (i:Nat) :: .dead :: .dead :: .dead :: .dead :: .dead :: .dead :: .dead :: .dead :: .dead :: .dead :: .dead :: .dead :: .dead :: .dead :: .dead :: .dead :: .dead :: .dead :: .dead :: .dead :: .dead :: .dead :: .dead :: .dead :: .dead :: []):=⟨_,rfl⟩
 refine loop_of I ?_ (spOf D k).length (by rw [hI];exact⟨Old.refl h,0,y0,by omega,fun _=>rfl,fun y l _ h=>by omega,rfl⟩)
 intro m env h' hi
 rw [hI]at hi
 obtain⟨oo,i,b,him,hb0,hb1,rfl⟩:=hi
 by_cases hlt:i < (spOf D k).length
 · obtain⟨x,hx⟩:∃x,(spOf D k)[i]?=some x:=⟨_,List.getElem?_eq_getElem hlt⟩
   have E:=Es.of (sl.old oo) hx
   have w1:IntKind.i64.wrap ((i:Int)+1)=((i+1:Nat):Int):=by rw [w64 (by omega) (by omega)];omega
   cases hl:spOf D k with
   | nil=>rw [hl]at hx;simp at hx
   | cons y l=>
   have e0:=hy2 y l hl
   by_cases hi0:i=0
   · subst hi0
     have hxy:x=y:=by rw [hl]at hx;simpa using hx.symm
     have Ex:=E.x
     rw [show((0:Nat):Int)=0 from rfl]at Ex
     rw [←hl]
     have d1:0 < (spOf D k).length:=by omega
     have w0:IntKind.i64.wrap ((0:Int)+1)=((1:Nat):Int):=by decide
     simp -implicitDefEqProofs [Ex,E.l,same_self,d1,w0]
     exact .mk (m:=m - 1) (by omega) (by rw [hI];exact⟨oo,1,b,by omega,fun e=>by omega,fun y' l' e _=>by rw [hl]at e;cases e;rw [hb0 rfl,e0.1];rfl,rfl⟩)
   · have hi1:0 < i:=by omega
     have hbb:=hb1 y l hl hi1
     have hgx:l[i - 1]?=some x:=by
      rw [hl]at hx
      obtain⟨j,rfl⟩:∃j,i=j+1:=⟨i - 1,by omega⟩
      simpa using hx
     have htk:l.take i=l.take (i - 1)++[x]:=by
      obtain⟨hl2,e2⟩:=List.getElem?_eq_some_iff.1 hgx
      have:=List.take_succ_eq_append_getElem hl2
      rw [e2,show i - 1+1=i by omega]at this
      exact this
     have nxt:∀h2,Old h' h2→∀b',b'=bestStep D b x→headK I m (.dead :: .dead :: .func 79 [.ptr s 5] [] :: .dead :: .dead :: .dead :: .cell [.int .u64 0,.int .u16 0,.int .u32 0,.int .u16 0,.int .u32 0] :: .dead :: .cell [.int .u64 b'.1.1,.int .u16 b'.1.2.1,.int .u32 b'.1.2.2,.int .u16 b'.2.1,.int .u32 b'.2.2] :: .bool b0 :: .dead :: .dead :: .dead :: .dead :: .dead :: .dead :: .dead :: .dead :: .dead :: .dead :: .dead :: .dead :: .dead :: spV D fs k :: .int .i64 ((spOf D k).length:Nat) :: .int .i64 (i+1:Nat) :: .dead :: .dead :: .dead :: .dead :: .dead :: .dead :: .dead :: .dead :: .dead :: .dead :: .dead :: .dead :: .dead :: .dead :: .dead :: .dead :: .dead :: .dead :: .dead :: .dead :: .dead :: .dead :: .dead :: .dead :: .dead :: []) h2:=fun h2 o2 b' hb'=>
      .mk (m:=m - 1) (by omega) (by rw [hI];exact⟨oo.trans o2,i+1,b',by omega,fun e=>by omega,fun y' l' e _=>by rw [hl]at e;cases e;rw [show i+1 - 1=i by omega,htk,List.foldl_append,←hbb,hb'];rfl,rfl⟩)
     rw [←hl]
     simp -implicitDefEqProofs [hlt,E.x,E.l,same_self,hi1]
     refine keyCmp_ev (c:=x.1.1) (r:=x.1.2.1) (n:=x.1.2.2) (c':=b.1.1) (r':=b.1.2.1) (n':=b.1.2.2) (fun h2 o2=>?_)
     by_cases hc:klt b.1 x.1
     · have d2:(0:Int) < cmpK (x.1.1,x.1.2.1,x.1.2.2) (b.1.1,b.1.2.1,b.1.2.2):=(cmpK_gt _ _).2 hc
       simp -implicitDefEqProofs [d2,same_self,hi1]
       refine off_ev (CC.old (oo.trans o2)) (k:=x.2) ?_
       cases hof:offD D x.2
       · simp -implicitDefEqProofs [same_self,w1]
         exact nxt h2 o2 x (by unfold bestStep;rw [decide_eq_true hc,hof];rfl)
       · simp -implicitDefEqProofs [same_self,w1]
         exact nxt h2 o2 b (by unfold bestStep;rw [decide_eq_true hc,hof];rfl)
     · have d2:¬(0:Int) < cmpK (x.1.1,x.1.2.1,x.1.2.2) (b.1.1,b.1.2.1,b.1.2.2):=fun e=>hc ((cmpK_gt _ _).1 e)
       simp -implicitDefEqProofs [d2,same_self,hi1,w1]
       exact nxt h2 o2 b (by unfold bestStep;rw [decide_eq_false hc];rfl)
 · have hbe:b=bestD D k:=by
    unfold bestD
    cases hl:spOf D k with
    | nil=>
     have:i=0:=by rw [hl]at him;simp at him;omega
     rw [hb0 this,(hy1 hl).1]
    | cons y l=>
     have hll:(spOf D k).length=l.length+1:=by rw [hl];rfl
     rw [hb1 y l hl (by omega),List.take_of_length_le (by omega)]
   subst hbe
   simp -implicitDefEqProofs [hlt]
   exact hq h' b0 oo
theorem cloneSp_ev {h0:AHeap} {v:AVal} {l:List Sp} (m:Mine h0 h 5 (l.map spc) v) (hl:l.length < 2 ^ 30) {Q:AVal→AHeap→Prop} (hq:∀v' h',Old h h'→Mine h h' 5 (l.map spc) v'→Q v' h'):Ev (cfgR ro) 165 [v] h Q:=by
 refine Ev.wp rfl rfl Tryz.func165 rfl ?_
 have rd:=(m.sl (c:=cfgR ro)).read
 obtain⟨m1,m2⟩:=m
 rcases m2 with ⟨e,rfl⟩ | ⟨q,fz,rfl,g1,g2,g3⟩
 · have e0:eqFlat Tryz.prog h (.slice 178) .nils .nils=.ok true:=rfl
   simp -implicitDefEqProofs [Tryz.f165,e0]
   exact hq _ _ (Old.refl h) (by rw [e];exact Mine.nil _ _ _)
 · have e0:∀n,eqFlat Tryz.prog h (.slice 178) (.sl q 0 n) .nils=.ok false:=fun n=>rfl
   have op:Old h (h.push (.row 5 false [])):=(Old.refl h).push _
   have mm:Mine h (h.push (.row 5 false [])) 5 [] (.sl h.next 0 0):=⟨by simp,.inr ⟨h.next,false,rfl,Nat.le_refl _,by simp,get_push_next _ _⟩⟩
   obtain⟨v',h',k1,k2,k3⟩:=mm.append (bytes:=24) (new:=l.map spc) (by decide) (fun e he=>by obtain⟨a,_,rfl⟩:=List.mem_map.1 he;rfl) (by simp;omega) op
   have hg2:(h.push (.row 5 false [])).get q=some (.row 5 fz (l.map spc).flatten):=by rw [op.2 q g2];exact g3
   have tk:(if l=[]then Res.ok []else takeR (l.map spc).flatten 0 (l.length * 5))=.ok (l.map spc).flatten:=by
    by_cases c:l=[]
    · subst c;rfl
    · rw [if_neg c]
      have:=rd
      simp only [rs_sl,g3,List.length_map]at this
      rw [if_neg (by simpa using c)]at this
      exact this
   rw [List.nil_append]at k2
   rw [List.length_map]at k1
   simp -implicitDefEqProofs [Tryz.f165,e0,buildSliceR,reps,same_self,hg2,tk,k1]
   exact hq _ _ k3 k2
theorem all_ev (C:CSt h s O D) {k:IdT} (hb:(spOf D k).length < 2 ^ 30) {Q:AVal→AHeap→Prop} (hq:∀v' h',Old h h'→Mine h h' 5 ((spOf D k).map spc) v'→Q v' h'):Ev (cfgR ro) 121 [.ptr s 3,idA k.1 k.2] h Q:=by
 obtain⟨col,spm,dm,lm,fs,fd,fl,rfl,C⟩:=C
 refine Ev.wp rfl rfl Tryz.func121 rfl ?_
 obtain⟨hcs,p,sd,m,hr⟩:=C.row
 have L:=C.lookS (ro:=ro) k
 have hv:=C.spv k
 simp -implicitDefEqProofs [Tryz.f121,idA,hr,L]
 refine cloneSp_ev hv.m hb (fun v' h' oo mm=>?_)
 have C':=C.keep (h':=h') (fun o ho=>oo.2 o (C.lt o ho)) oo.1
 obtain⟨_,p2,sd2,m2,hr2⟩:=C'.row
 have hrr:=oo.2 s (C.lt s (by rw [hcs];simp))
 rw [hr]at hrr
 simp -implicitDefEqProofs [hrr,C'.lookS (ro:=ro) k,same_self]
 exact hq v' h' oo mm
end
end Go.Proofs.YtlhlbamcgopiiaaGreatDoor
set_option linter.all false
set_option maxRecDepth 100000
set_option maxHeartbeats 4000000
namespace Go.Proofs.YtlhlbamcgopiiaaGreatDoor
open Go Go.RowKit Go.Proofs
abbrev Sn:=IdT×Nat
def snc (s:Sn):List AVal:=[.int .u16 s.1.1,.int .u32 s.1.2,.int .i64 (s.2:Nat)]
def plusI (x:IdT) (i:Nat):IdT:=(x.1,x.2+i)
def idsS (s:Sn):List IdT:=(List.range s.2).map (plusI s.1)
def idsOf (l:List Sn):List IdT:=(l.map idsS).flatten
theorem idsS_succ (x:IdT) (i:Nat):(List.range (i+1)).map (plusI x)=(List.range i).map (plusI x)++[plusI x i]:=by rw [List.range_succ,List.map_append];rfl
theorem idsS_len (s:Sn):(idsS s).length=s.2:=by simp [idsS]
theorem idsOf_take {l:List Sn} {i:Nat} {s:Sn} (h:l[i]?=some s):idsOf (l.take (i+1))=idsOf (l.take i)++idsS s:=by
 obtain⟨h1,h2⟩:=List.getElem?_eq_some_iff.1 h
 unfold idsOf
 rw [List.take_succ_eq_append_getElem h1,h2,List.map_append,List.flatten_append]
 simp
theorem idsOf_le (l:List Sn) (i:Nat):(idsOf (l.take i)).length≤(idsOf l).length:=by
 have:idsOf l=idsOf (l.take i)++idsOf (l.drop i):=by
  unfold idsOf
  rw [←List.flatten_append,←List.map_append,List.take_append_drop]
 rw [this,List.length_append];omega
theorem idsOf_le2 {l:List Sn} {i:Nat} {s:Sn} (h:l[i]?=some s):(idsOf (l.take i)).length+s.2≤(idsOf l).length:=by
 have:=idsOf_le l (i+1)
 rw [idsOf_take h,List.length_append,idsS_len]at this
 exact this
section
variable {ro:Nat→Option (List AVal)} {h:AHeap}
structure Esn (h:AHeap) (v:AVal) (i:Nat) (a:Sn):Prop where
 x:indexAddrR Tryz.prog 56 v (.int .i64 (i:Nat))=.ok (elp v 3 i)
 l:loadR (cfgR ro) h 157 (elp v 3 i)=.ok (.agg [.int .u16 a.1.1,.int .u32 a.1.2,.int .i64 (a.2:Nat)])
theorem Esn.of {v:AVal} {l:List Sn} (hs:Sl (cfgR ro) h 3 v (l.map snc)) {i:Nat} {a:Sn} (ha:l[i]?=some a):Esn (ro:=ro) h v i a:=by
 have hi:i < (l.map snc).length:=by have:=(List.getElem?_eq_some_iff.1 ha).1;simpa using this
 have he:(l.map snc)[i]?=some (snc a):=by rw [List.getElem?_map,ha];rfl
 exact⟨hs.idx un56 sz157 hi,hs.load he ag157 sz157⟩
theorem lenSn {v:AVal} {l:List Sn} (hs:Sl (cfgR ro) h 3 v (l.map snc)):lenR (cfgR ro) h 56 v=.ok (.int .i64 (l.length:Nat)):=by have:=hs.lenR (t:=56) un56;simpa using this
theorem ids_ev {v:AVal} {l:List Sn} (hs:Sl (cfgR ro) h 3 v (l.map snc)) (hl:l.length < 2 ^ 40) (hok:∀s∈l,s.1.2+s.2 < 2 ^ 32) (hn:(idsOf l).length < 2 ^ 30) {Q:AVal→AHeap→Prop} (hq:∀v' h',Old h h'→Mine h h' 2 ((idsOf l).map idc) v'→Q v' h'):
 Ev (cfgR ro) 64 [v] h Q:=by
 refine Ev.wp rfl rfl Tryz.func64 rfl ?_
 have hL:=lenSn hs
 simp -implicitDefEqProofs [Tryz.f64,hL]
 obtain⟨I,hI⟩:∃I:Nat→List AVal→AHeap→Prop,I=fun m env h'=>Old h h'∧∃(i:Nat) (w:AVal),i+m=l.length∧Mine h h' 2 ((idsOf (l.take i)).map idc) w∧
  env=(.dead :: .dead :: .dead :: w :: .dead :: .dead :: .dead :: v :: .int .i64 (l.length:Nat) :: .int .i64 (i:Nat) :: .dead :: .dead :: .dead :: .dead :: .dead :: .dead :: .dead :: .dead :: .dead :: .dead :: .dead :: .dead :: .dead :: .dead :: .dead :: .dead :: .dead :: .dead :: []):=⟨_,rfl⟩
 refine loop_of I ?_ l.length (by rw [hI];exact⟨Old.refl h,0,.nils,by omega,Mine.nil _ _ _,rfl⟩)
 intro m env h' hi
 rw [hI]at hi
 obtain⟨oo,i,w,him,hm,rfl⟩:=hi
 by_cases hlt:i < l.length
 · obtain⟨s,hx⟩:∃s,l[i]?=some s:=⟨_,List.getElem?_eq_getElem hlt⟩
   have E:=Esn.of (hs.old oo) hx
   have hso:=hok s (List.mem_of_getElem? hx)
   have hle:=idsOf_le2 hx
   have w1:IntKind.i64.wrap ((i:Int)+1)=((i+1:Nat):Int):=by rw [w64 (by omega) (by omega)];omega
   simp -implicitDefEqProofs [hlt,E.x,E.l,same_self]
   obtain⟨J,hJ⟩:∃J:Nat→List AVal→AHeap→Prop,J=fun m2 env h2=>Old h h2∧∃(j:Nat) (w2:AVal),j+m2=s.2∧Mine h h2 2 ((idsOf (l.take i)++(List.range j).map (plusI s.1)).map idc) w2∧
    env=(.dead :: .dead :: .dead :: w2 :: .dead :: .cell [.int .u16 s.1.1,.int .u32 s.1.2,.int .i64 (s.2:Nat)] :: .dead :: v :: .int .i64 (l.length:Nat) :: .int .i64 (i:Nat) :: .dead :: .dead :: .dead :: .dead :: .int .i64 (s.2:Nat) :: .int .i64 (j:Nat) :: .dead :: .dead :: .dead :: .dead :: .dead :: .dead :: .dead :: .dead :: .dead :: .dead :: .dead :: .dead :: []):=⟨_,rfl⟩
   refine loop_of J ?_ s.2 (by rw [hJ];exact⟨oo,0,w,by omega,by simpa using hm,rfl⟩)
   intro m2 env h2 hj
   rw [hJ]at hj
   obtain⟨o2,j,w2,hjm,hm2,rfl⟩:=hj
   by_cases hlt2:j < s.2
   · have w3:IntKind.i64.wrap ((j:Int)+1)=((j+1:Nat):Int):=by rw [w64 (by omega) (by omega)];omega
     simp -implicitDefEqProofs [hlt2,same_self]
     refine idPlus_ev (r:=s.1.1) (n:=s.1.2) (k:=j) (by omega) ?_
     have op:Old h2 (h2.push (.row 2 false (idc (plusI s.1 j)))):=(Old.refl h2).push _
     obtain⟨w4,h4,k1,k2,k3⟩:=Mine.append1 (bytes:=8) (e:=idc (plusI s.1 j)) (hm2.keep op) (by decide) rfl (by simp;omega) (o2.trans op)
     unfold idc plusI at k1
     simp only at k1
     rw [show((s.1.2+j:Nat):Int)=((s.1.2+j:Nat):Int)from rfl]at k1
     obtain⟨sj,hsj⟩:∃sj,sj=s.1.2+j:=⟨_,rfl⟩
     rw [←hsj]at k1 ⊢
     simp -implicitDefEqProofs [idA,buildSliceR,reps,k1,w3,same_self]
     exact .mk (m:=m2 - 1) (by omega) (by rw [hJ];exact⟨k3,j+1,w4,by omega,by rw [idsS_succ,←List.append_assoc,List.map_append];exact k2,rfl⟩)
   · have hj2:j=s.2:=by omega
     subst hj2
     simp -implicitDefEqProofs [hlt2,w1]
     exact .mk (m:=m - 1) (by omega) (by rw [hI];exact⟨o2,i+1,w2,by omega,by rw [idsOf_take hx];exact hm2,rfl⟩)
 · rw [List.take_of_length_le (by omega)]at hm
   simp -implicitDefEqProofs [hlt]
   exact hq w h' oo hm
def totS (l:List Sn):Nat:=(l.map (·.2)).sum
theorem totS_ids (l:List Sn):(idsOf l).length=totS l:=by
 unfold idsOf totS
 rw [List.length_flatten,List.map_map]
 congr 1
 exact List.map_congr_left fun s _=>idsS_len s
theorem total_ev {v:AVal} {l:List Sn} (hs:Sl (cfgR ro) h 3 v (l.map snc)) (hl:l.length < 2 ^ 40) (hn:totS l < 2 ^ 40) {Q:AVal→AHeap→Prop} (hq:Q (.int .i64 (totS l:Nat)) h):Ev (cfgR ro) 69 [v] h Q:=by
 refine Ev.wp rfl rfl Tryz.func69 rfl ?_
 have hL:=lenSn hs
 simp -implicitDefEqProofs [Tryz.f69,hL]
 obtain⟨I,hI⟩:∃I:Nat→List AVal→AHeap→Prop,I=fun m env h'=>h'=h∧∃(i:Nat) (z:Nat),i+m=l.length∧z=totS (l.take i)∧
  env=(.dead :: .dead :: .dead :: .int .i64 (z:Nat) :: .dead :: .dead :: v :: .int .i64 (l.length:Nat) :: .int .i64 (i:Nat) :: .dead :: .dead :: .dead :: .dead :: .dead :: .dead :: .dead :: .dead :: .dead :: []):=⟨_,rfl⟩
 refine loop_of I ?_ l.length (by rw [hI];exact⟨rfl,0,0,by omega,rfl,rfl⟩)
 intro m env h' hi
 rw [hI]at hi
 obtain⟨rfl,i,z,him,hz,rfl⟩:=hi
 by_cases hlt:i < l.length
 · obtain⟨s,hx⟩:∃s,l[i]?=some s:=⟨_,List.getElem?_eq_getElem hlt⟩
   have E:=Esn.of hs hx
   have htk:totS (l.take (i+1))=z+s.2:=by
    rw [←totS_ids,idsOf_take hx,List.length_append,idsS_len,totS_ids,←hz]
   have hle:z+s.2≤totS l:=by rw [←htk,←totS_ids,←totS_ids];exact idsOf_le l (i+1)
   have w1:IntKind.i64.wrap ((i:Int)+1)=((i+1:Nat):Int):=by rw [w64 (by omega) (by omega)];omega
   have w2:IntKind.i64.wrap ((z:Int)+(s.2:Int))=((z+s.2:Nat):Int):=by rw [w64 (by omega) (by omega)];omega
   simp -implicitDefEqProofs [hlt,E.x,E.l,same_self,w1,w2]
   exact .mk (m:=m - 1) (by omega) (by rw [hI];exact⟨rfl,i+1,z+s.2,by omega,htk.symm,by simp⟩)
 · rw [List.take_of_length_le (by omega)]at hz
   subst hz
   simp -implicitDefEqProofs [hlt]
   exact hq
end
end Go.Proofs.YtlhlbamcgopiiaaGreatDoor
set_option linter.all false
set_option maxRecDepth 100000
set_option maxHeartbeats 4000000
namespace Go.Proofs.YtlhlbamcgopiiaaGreatDoor
open Go Go.RowKit Go.Proofs
structure TxV where
 r:Nat
 seq:Nat
 clock:Nat
 user:Int
def TxV.id (t:TxV):IdT:=(t.r,t.seq)
def txA (t:TxV) (v:AVal):AVal:=.agg [.int .u16 t.r,.int .u32 t.seq,.int .u64 t.clock,.int .i64 t.user,v]
def showAll (yes:Sp→Bool) (sp:List Sp) (A:List AtV):List AtV:=sp.foldl (fun A x=>(showA A x.1.2.1 x.1.2.2 (yes x)).1) A
def yesD (D:CV) (e:IdT) (x:Sp):Bool:=decide (1≤countD D e) && decide (x=bestD D e)
def renewD (D:CV) (e:IdT):CV:={ D with A:=showAll (yesD D e) (spOf D e) D.A }
section
variable {ro:Nat→Option (List AVal)} {h:AHeap} {s:Nat} {D:CV} {O:Nat→Prop}
theorem txid_ev {t:TxV} {v:AVal} {Q:AVal→AHeap→Prop} (hq:Q (idA t.r t.seq) h):Ev (cfgR ro) 60 [txA t v] h Q:=by
 refine Ev.wp rfl rfl Tryz.func60 rfl ?_
 simp only [idA]at hq
 simp -implicitDefEqProofs [Tryz.f60,txA]
 exact hq
theorem txkey_ev {t:TxV} {v:AVal} {n:Nat} {Q:AVal→AHeap→Prop} (hq:Q (keyA t.clock t.r n) h):Ev (cfgR ro) 114 [txA t v,.int .u32 n] h Q:=by
 refine Ev.wp rfl rfl Tryz.func114 rfl ?_
 simp only [keyA]at hq
 simp -implicitDefEqProofs [Tryz.f114,txA]
 exact hq
theorem eqSp0 (h:AHeap) (c r n er en c' r' n' er' en':Nat):eqIn (cfgR ro) h 10000 178 (.agg [.int .u64 c,.int .u16 r,.int .u32 n,.int .u16 er,.int .u32 en]) (.agg [.int .u64 c',.int .u16 r',.int .u32 n',.int .u16 er',.int .u32 en'])=
 Res.bind (match (c:Int) == (c':Int)with | true=>(match (r:Int) == (r':Int)with | true=>(match (n:Int) == (n':Int)with | true=>Res.ok true | false=>.ok false) | false=>.ok false) | false=>.ok false) (fun x=>match x with
  | true=>Res.bind (match (er:Int) == (er':Int)with | true=>(match (en:Int) == (en':Int)with | true=>Res.ok true | false=>.ok false) | false=>.ok false) (fun x=>match x with
   | true=>Res.ok true
   | false=>.ok false)
  | false=>.ok false):=by kernel_rfl
theorem beqNI (a b:Nat):((a:Int) == (b:Int))=decide (a=b):=by
 by_cases h:a=b
 · simp [h]
 · have:¬(a:Int)=(b:Int):=by omega
   simp [h,this]
theorem eqSp (h:AHeap) (x y:Sp):eqIn (cfgR ro) h 10000 178 (.agg [.int .u64 x.1.1,.int .u16 x.1.2.1,.int .u32 x.1.2.2,.int .u16 x.2.1,.int .u32 x.2.2]) (.agg [.int .u64 y.1.1,.int .u16 y.1.2.1,.int .u32 y.1.2.2,.int .u16 y.2.1,.int .u32 y.2.2])=.ok (decide (x=y)):=by
 rw [eqSp0]
 simp only [beqNI]
 obtain⟨⟨a,b,c⟩,d,e⟩:=x
 obtain⟨⟨a',b',c'⟩,d',e'⟩:=y
 simp only [Prod.mk.injEq]
 by_cases c1:a=a'
 · by_cases c2:b=b'
   · by_cases c3:c=c'
     · by_cases c4:d=d'
       · by_cases c5:e=e'
         · simp [c1,c2,c3,c4,c5]
         · simp [c1,c2,c3,c4,c5]
       · simp [c1,c2,c3,c4]
     · simp [c1,c2,c3]
   · simp [c1,c2]
 · simp [c1]
theorem eqLSp:eqL 178=true:=by decide
theorem cshow_ev (C:CSt h s O D) {ar an:Nat} {v:Bool} (ha:an < 2 ^ 32) {Q:AVal→AHeap→Prop} (hq:∀h' O' n,CSt h' s O' { D with A:=(showA D.A ar an v).1 }→Stp h O h' O'→Q (.int .i64 n) h'):Ev (cfgR ro) 122 [.ptr s 0,idA ar an,.bool v] h Q:=by
 obtain⟨col,spm,dm,lm,fs,fd,fl,rfl,C⟩:=C
 refine sshow_ev C.st ha (fun h' O' S P=>?_)
 obtain⟨col',C',P'⟩:=C.ofStore S P
 exact hq h' _ _ ⟨col',_,_,_,_,_,_,rfl,C'⟩ P'
theorem crenew_ev (C:CSt h s O D) {e:IdT} (hs:(spOf D e).length < 2 ^ 30) (hx:∀x∈spOf D e,x.1.2.2 < 2 ^ 32) (hg:∀l,lookI D.lives e=some l→l.gone.length < 2 ^ 30) {Q:AVal→AHeap→Prop}
 (hq:∀h' O',CSt h' s O' (renewD D e)→Stp h O h' O'→Q (.tuple []) h'):Ev (cfgR ro) 66 [.ptr s 0,idA e.1 e.2] h Q:=by
 refine Ev.wp rfl rfl Tryz.func66 rfl ?_
 simp -implicitDefEqProofs [Tryz.f66,idA]
 refine best_ev C (k:=e) hs (fun h1 b0 o1=>?_)
 have C1:=C.old o1
 simp -implicitDefEqProofs [idA]
 refine tcount_ev C1 (e:=e) hg ?_
 obtain⟨cn,hcn⟩:∃cn,cn=decide (1≤countD D e):=⟨_,rfl⟩
 simp -implicitDefEqProofs [idA]
 refine all_ev C1 (k:=e) hs (fun v h2 o2 hm=>?_)
 have C2:=C1.old o2
 have hL2:=lenSp (hm.sl (c:=cfgR ro))
 simp -implicitDefEqProofs [hL2]
 rw [←hcn]
 obtain⟨B,hB⟩:∃B,B=bestD D e:=⟨_,rfl⟩
 rw [←hB]
 obtain⟨I,hI⟩:∃I:Nat→List AVal→AHeap→Prop,I=fun m env h'=>∃(i:Nat) (O':Nat→Prop),i+m=(spOf D e).length∧CSt h' s O' { D with A:=showAll (yesD D e) ((spOf D e).take i) D.A }∧Stp h2 O h' O'∧Mine h1 h' 5 ((spOf D e).map spc) v∧(∀o,vobj v o→¬O' o)∧
  env=(.ptr s 0 :: .dead :: .dead :: .dead :: .cell [.int .u64 B.1.1,.int .u16 B.1.2.1,.int .u32 B.1.2.2,.int .u16 B.2.1,.int .u32 B.2.2] :: .dead :: .bool cn :: .dead :: .dead :: .dead :: .dead :: .dead :: .dead :: .dead :: .dead :: .dead :: .dead :: .dead :: .dead :: .dead :: .dead :: .dead :: .dead :: .dead :: .dead :: .dead :: .dead :: .dead :: .dead :: .dead :: .dead :: v :: .int .i64 ((spOf D e).length:Nat) :: .int .i64 (i:Nat) :: .dead :: .dead :: .dead :: .dead :: .dead :: .dead :: .dead :: .dead :: .dead :: .dead :: .dead :: .dead :: .dead :: .dead :: .dead :: .dead :: .dead :: []):=⟨_,rfl⟩
 refine⟨.inl (by decide +kernel),?_⟩
 refine loop_of I ?_ (spOf D e).length (by rw [hI];exact⟨0,O,by omega,C2,Stp.refl _ _,hm,fun o ho hO=>by have:=hm.obj o ho;have:=C1.lt o hO;omega,rfl⟩)
 intro m env h' hi
 rw [hI]at hi
 obtain⟨i,O',him,C',P',hm',hno,rfl⟩:=hi
 by_cases hlt:i < (spOf D e).length
 · obtain⟨x,hxx⟩:∃x,(spOf D e)[i]?=some x:=⟨_,List.getElem?_eq_getElem hlt⟩
   have E:=Es.of (hm'.sl (c:=cfgR ro)) hxx
   have w1:IntKind.i64.wrap ((i:Int)+1)=((i+1:Nat):Int):=by rw [w64 (by omega) (by omega)];omega
   have e1:=fun h=>eqSp (ro:=ro) h x B
   have htk:showAll (yesD D e) ((spOf D e).take (i+1)) D.A=(showA (showAll (yesD D e) ((spOf D e).take i) D.A) x.1.2.1 x.1.2.2 (yesD D e x)).1:=by
    obtain⟨hl2,e2⟩:=List.getElem?_eq_some_iff.1 hxx
    unfold showAll
    rw [List.take_succ_eq_append_getElem hl2,e2,List.foldl_append];rfl
   have hy:yesD D e x=(cn && decide (x=B)):=by unfold yesD;rw [hcn,hB]
   simp -implicitDefEqProofs [hlt,E.x,E.l,same_self]
   refine keyID_ev (c:=x.1.1) (r:=x.1.2.1) (n:=x.1.2.2) ?_
   have fin:∀h3 O3 (n:Int),CSt h3 s O3 { D with A:=(showA (showAll (yesD D e) ((spOf D e).take i) D.A) x.1.2.1 x.1.2.2 (yesD D e x)).1 }→Stp h' O' h3 O3→headK I m (.ptr s 0 :: .dead :: .dead :: .dead :: .cell [.int .u64 B.1.1,.int .u16 B.1.2.1,.int .u32 B.1.2.2,.int .u16 B.2.1,.int .u32 B.2.2] :: .dead :: .bool cn :: .dead :: .dead :: .dead :: .dead :: .dead :: .dead :: .dead :: .dead :: .dead :: .dead :: .dead :: .dead :: .dead :: .dead :: .dead :: .dead :: .dead :: .dead :: .dead :: .dead :: .dead :: .dead :: .dead :: .dead :: v :: .int .i64 ((spOf D e).length:Nat) :: .int .i64 (i+1:Nat) :: .dead :: .dead :: .dead :: .dead :: .dead :: .dead :: .dead :: .dead :: .dead :: .dead :: .dead :: .dead :: .dead :: .dead :: .dead :: .dead :: .dead :: []) h3:=by
    intro h3 O3 n C3 P3
    exact .mk (m:=m - 1) (by omega) (by rw [hI];exact⟨i+1,O3,by omega,by rw [htk];exact C3,P'.trans P3,hm'.keepO (fun o ho=>P3.keep o (hm'.obj o ho).2 (hno o ho)) P3.nx,fun o ho hO=>by
     rcases P3.own o hO with h5 | h5
     · exact hno o ho h5
     · have:=(hm'.obj o ho).2;omega,rfl⟩)
   rw [hy]at fin
   cases hcc:cn
   · rw [hcc]at fin
     simp -implicitDefEqProofs [hcc,same_self,idA]
     refine cshow_ev C' (ar:=x.1.2.1) (an:=x.1.2.2) (hx x (List.mem_of_getElem? hxx)) (fun h3 O3 n C3 P3=>?_)
     simp -implicitDefEqProofs [w1,same_self]
     exact fin h3 O3 n C3 P3
   · rw [hcc]at fin
     simp -implicitDefEqProofs [hcc,same_self,idA,eqLSp,e1]
     refine cshow_ev C' (ar:=x.1.2.1) (an:=x.1.2.2) (hx x (List.mem_of_getElem? hxx)) (fun h3 O3 n C3 P3=>?_)
     simp -implicitDefEqProofs [w1,same_self,eqLSp,e1]
     exact fin h3 O3 n C3 P3
 · rw [List.take_of_length_le (by omega)]at C'
   simp -implicitDefEqProofs [hlt]
   exact hq h' O' C' (((Stp.ofOld _ o1).trans (Stp.ofOld _ o2)).trans P')
end
end Go.Proofs.YtlhlbamcgopiiaaGreatDoor
set_option linter.all false
set_option maxRecDepth 100000
set_option maxHeartbeats 4000000
namespace Go.Proofs.YtlhlbamcgopiiaaGreatDoor
open Go Go.RowKit Go.Proofs
structure CapS (h:AHeap) (q sz cap:Nat) (es:List (List AVal)):Prop where
 low:q < h.next
 w:∀e∈es,e.length=sz
 room:es.length≤cap
 row:∃vs,h.get q=some (.row sz false vs)∧vs.length=cap * sz∧vs.take (es.length * sz)=es.flatten
theorem CapS.keep {h h':AHeap} {q sz cap:Nat} {es:List (List AVal)} (c:CapS h q sz cap es) (k:h'.get q=h.get q) (hn:h.next≤h'.next):CapS h' q sz cap es:=
 ⟨Nat.lt_of_lt_of_le c.low hn,c.w,c.room,by rw [k];exact c.row⟩
theorem CapS.sl {c:Cfg} {h:AHeap} {q sz cap:Nat} {es:List (List AVal)} (k:CapS h q sz cap es):Sl c h sz (.sl q 0 es.length) es:=by
 obtain⟨vs,r1,r2,r3⟩:=k.row
 have hf:=flat_len k.w
 refine⟨rfl,(fun s h=>by cases h),fun _=>⟨vs,0,by simp [rowOf,r1],fun i e he=>⟨k.w e (List.mem_of_getElem? he),?_⟩⟩,k.low,(fun o f n hv=>by cases hv;exact⟨_,_,r1⟩)⟩
 have h2:=flat_take k.w he
 have hi:=(List.getElem?_eq_some_iff.1 he).1
 rw [Nat.zero_add]
 unfold takeR at h2 ⊢
 have hle:i * sz+sz≤es.length * sz:=by rw [←Nat.succ_mul];exact Nat.mul_le_mul_right _ hi
 have hcap:es.length * sz≤cap * sz:=Nat.mul_le_mul_right _ k.room
 rw [if_pos (by rw [hf];exact hle)]at h2
 rw [if_pos (by omega)]
 rw [←r3]at h2
 rw [List.drop_take,List.take_take,Nat.min_eq_left (by omega)]at h2
 exact h2
theorem CapS.app {h:AHeap} {q sz cap b:Nat} {es:List (List AVal)} {e:List AVal} (k:CapS h q sz cap es) (hl:es.length < cap) (he:e.length=sz):
 ∃x,appCore sz b h (.sl q 0 es.length) 1 e=.ok (.sl q 0 (es.length+1),h.set q x)∧CapS (h.set q x) q sz cap (es++[e]):=by
 obtain⟨vs,r1,r2,r3⟩:=k.row
 have hf:=flat_len k.w
 have hle:es.length * sz+sz≤cap * sz:=by rw [←Nat.succ_mul];exact Nat.mul_le_mul_right _ hl
 refine⟨.row sz false (vs.take (es.length * sz)++e++vs.drop (es.length * sz+sz)),?_,k.low,fun e' h'=>?_,by simp;omega,_,get_set_self _ _ _,?_,?_⟩
 · unfold appCore
   simp only [r1,if_true]
   have hm:(es.length+1) * sz=es.length * sz+sz:=Nat.succ_mul _ _
   rw [if_pos (by omega)]
   unfold overR
   rw [if_pos (by omega)]
   simp only [Nat.zero_add,he,Res.ok_bind]
 · rcases List.mem_append.1 h' with h1 | h1
   · exact k.w e' h1
   · simp at h1;rw [h1,he]
 · simp only [List.length_append,List.length_take,List.length_drop,he];omega
 · have e1:(es++[e]).length * sz=(vs.take (es.length * sz)++e).length:=by
    rw [List.length_append,List.length_append,List.length_take,he,List.length_singleton,Nat.min_eq_left (by omega),Nat.succ_mul]
   rw [e1,List.take_left',r3]
   · simp
   · rfl
def byteA (A:List AtV) (x:IdT):UInt8:=match atIx A x.1 x.2 with
 | some i=>(A[i]?.map (·.b)).getD 0
 | none=>0
def spanTx (A:List AtV) (s:Sn):Str:=(idsS s).map (byteA A)
section
variable {ro:Nat→Option (List AVal)} {h:AHeap} {s:Nat} {D:CV} {O:Nat→Prop}
theorem bytes_ev (C:CSt h s O D) {x:Sn} (hx:x.1.2+x.2 < 2 ^ 32) {Q:AVal→AHeap→Prop} (hq:∀h',Old h h'→Q (.str (spanTx D.A x)) h'):
 Ev (cfgR ro) 123 [.ptr s 0,.agg [.int .u16 x.1.1,.int .u32 x.1.2,.int .i64 (x.2:Nat)]] h Q:=by
 obtain⟨col,spm,dm,lm,fs,fd,fl,rfl,C⟩:=C
 refine Ev.wp rfl rfl Tryz.func123 rfl ?_
 have hmk:makeSliceR Tryz.prog h 162 (.int .i64 0) (.int .i64 (x.2:Nat))=.ok (.sl h.next 0 0,h.push (.row 1 false (reps x.2 [.int .u8 0]))):=by
  have hi:∃i,infoR Tryz.prog 5=.ok i∧i.size=1∧i.bytes=1:=⟨_,rfl,by kernel_rfl,by kernel_rfl⟩
  obtain⟨i,i1,i2,i3⟩:=hi
  have w0:IntKind.i64.wrap 0=0:=by decide
  have w1:IntKind.i64.wrap (x.2:Int)=(x.2:Int):=w64 (by omega) (by omega)
  unfold makeSliceR
  simp [i1,i2,i3,w0,w1]
  omega
 have hrep:reps x.2 [.int .u8 0]=(List.replicate x.2 [AVal.int .u8 0]).flatten:=rfl
 obtain⟨H,hH⟩:∃H,H=h.push (.row 1 false (reps x.2 [.int .u8 0])):=⟨_,rfl⟩
 have o1:Old h H:=by rw [hH];exact(Old.refl h).push _
 have k0:CapS H h.next 1 x.2 []:=⟨by rw [hH];simp,by simp,Nat.zero_le _,_,by rw [hH,get_push_next],by simp [reps],by simp⟩
 simp -implicitDefEqProofs [Tryz.f123,hmk]
 rw [←hH]
 obtain⟨I,hI⟩:∃I:Nat→List AVal→AHeap→Prop,I=fun m env h'=>Old h h'∧∃(i:Nat),i+m=x.2∧CapS h' h.next 1 x.2 (bes ((spanTx D.A x).take i))∧
  env=(.ptr s 0 :: .dead :: .dead :: .cell [.int .u16 x.1.1,.int .u32 x.1.2,.int .i64 (x.2:Nat)] :: .dead :: .sl h.next 0 i :: .dead :: .dead :: .dead :: .dead :: .dead :: .dead :: .dead :: .int .i64 (x.2:Nat) :: .int .i64 (i:Nat) :: .dead :: .dead :: .dead :: .dead :: .dead :: .dead :: .dead :: .dead :: .dead :: .dead :: .dead :: .dead :: .dead :: .dead :: .dead :: .dead :: .dead :: .dead :: .dead :: .dead :: .dead :: []):=⟨_,rfl⟩
 refine loop_of I ?_ x.2 (by rw [hI];exact⟨o1,0,by omega,k0,rfl⟩)
 intro m env h' hi
 rw [hI]at hi
 obtain⟨oo,i,him,kk,rfl⟩:=hi
 have hbl:(spanTx D.A x).length=x.2:=by unfold spanTx;rw [List.length_map,idsS_len]
 by_cases hlt:i < x.2
 · have w1:IntKind.i64.wrap ((i:Int)+1)=((i+1:Nat):Int):=by rw [w64 (by omega) (by omega)];omega
   have hti:((spanTx D.A x).take i).length=i:=by rw [List.length_take];omega
   have hgi:(spanTx D.A x)[i]?=some (byteA D.A (plusI x.1 i)):=by
    unfold spanTx idsS
    rw [List.getElem?_map,List.getElem?_map,List.getElem?_range hlt];rfl
   have htk:(spanTx D.A x).take (i+1)=(spanTx D.A x).take i++[byteA D.A (plusI x.1 i)]:=by
    obtain⟨hl2,e2⟩:=List.getElem?_eq_some_iff.1 hgi
    rw [List.take_succ_eq_append_getElem hl2,e2]
   have nxt:∀c:UInt8,c=byteA D.A (plusI x.1 i)→∃y,appCore 1 1 (h'.push (.row 1 false [.int .u8 c.toNat])) (.sl h.next 0 i) 1 [.int .u8 c.toNat]=.ok (.sl h.next 0 (i+1),(h'.push (.row 1 false [.int .u8 c.toNat])).set h.next y)∧
    headK I m (.ptr s 0 :: .dead :: .dead :: .cell [.int .u16 x.1.1,.int .u32 x.1.2,.int .i64 (x.2:Nat)] :: .dead :: .sl h.next 0 (i+1) :: .dead :: .dead :: .dead :: .dead :: .dead :: .dead :: .dead :: .int .i64 (x.2:Nat) :: .int .i64 (i+1:Nat) :: .dead :: .dead :: .dead :: .dead :: .dead :: .dead :: .dead :: .dead :: .dead :: .dead :: .dead :: .dead :: .dead :: .dead :: .dead :: .dead :: .dead :: .dead :: .dead :: .dead :: .dead :: []) ((h'.push (.row 1 false [.int .u8 c.toNat])).set h.next y):=by
    intro c hc
    have op:Old h' (h'.push (.row 1 false [.int .u8 c.toNat])):=(Old.refl h').push _
    obtain⟨y,a1,a2⟩:=(kk.keep (op.2 _ kk.low) op.1).app (b:=1) (e:=[.int .u8 c.toNat]) (by rw [bes_len,hti];exact hlt) rfl
    rw [bes_len,hti]at a1
    have hbe:bes ((spanTx D.A x).take i++[c])=bes ((spanTx D.A x).take i)++[[.int .u8 c.toNat]]:=by rw [bes_append];rfl
    refine⟨y,a1,.mk (m:=m - 1) (by omega) (by rw [hI];exact⟨(oo.trans op).set (Nat.le_refl _) _,i+1,by omega,by rw [htk,←hc,hbe];exact a2,rfl⟩)⟩
   have C':=C.keep (h':=h') (fun o ho=>oo.2 o (C.lt o ho)) oo.1
   simp -implicitDefEqProofs [hlt,same_self]
   refine idPlus_ev (r:=x.1.1) (n:=x.1.2) (k:=i) (by omega) ?_
   simp -implicitDefEqProofs [idA,same_self]
   refine sget_ev C'.st (ar:=x.1.1) (an:=x.1.2+i) (by omega) (fun j a e1 e2=>?_) (fun e1=>?_)
   · have hbb:byteA D.A (plusI x.1 i)=a.b:=by
      unfold byteA plusI
      simp only
      rw [e1]
      simp only [e2,Option.map_some,Option.getD_some]
     obtain⟨y,b1,b2⟩:=nxt a.b hbb.symm
     simp -implicitDefEqProofs [AtV.cells,buildSliceR,reps,b1,w1,same_self]
     exact b2
   · have hbb:byteA D.A (plusI x.1 i)=0:=by
      unfold byteA plusI
      simp only
      rw [e1]
     obtain⟨y,b1,b2⟩:=nxt 0 hbb.symm
     have b1':=b1
     rw [show((0:UInt8).toNat:Int)=0 from rfl]at b1' b2
     simp -implicitDefEqProofs [zeroAtom,buildSliceR,reps,b1',w1,same_self]
     exact b2
 · have hie:i=x.2:=by omega
   subst hie
   rw [List.take_of_length_le (by omega)]at kk
   have hbs:BS (cfgR ro) h' (.sl h.next 0 x.2) (spanTx D.A x):=by
    have:=kk.sl (c:=cfgR ro)
    rw [bes_len,hbl]at this
    exact this
   have hcv:=hbs.conv (s:=162) (d:=9) un162 un9 un5
   simp -implicitDefEqProofs [hlt,hcv,-convR]
   exact hq h' oo
end
end Go.Proofs.YtlhlbamcgopiiaaGreatDoor
set_option linter.all false
set_option maxRecDepth 100000
set_option maxHeartbeats 4000000
namespace Go.Proofs.YtlhlbamcgopiiaaGreatDoor
open Go Go.RowKit Go.Proofs
theorem tw_split {p:AtV→Bool} {R:List AtV} (h2:∀y l,R=y :: l→p y=false):∀{H:List AtV},(∀y∈H,p y=true)→(H++R).takeWhile p=H∧(H++R).dropWhile p=R
 | [],_=>by
  cases R with
  | nil=>exact⟨rfl,rfl⟩
  | cons y l=>have:=h2 y l rfl;simp [this]
 | a :: H,h1=>by
  have ha:=h1 a (by simp)
  have ih:=tw_split h2 (H:=H) (fun y hy=>h1 y (by simp [hy]))
  simp [ha,ih.1,ih.2]
def grA (A:List AtV) (p:Nat) (r:RunV):List AtV:=A.take p++((A.drop p).takeWhile (fun z=>decide (klt r.key z.key))++(atomsOf r++(A.drop p).dropWhile (fun z=>decide (klt r.key z.key))))
def putG (A:List AtV) (x:IdT) (r:RunV):List AtV:=grA A ((posA A x.1 x.2).getD 0) r
def insStep (D:CV) (k:IdT) (key:KeyT):CV:={ addD (makeD D k key.2) key.2 (key,k)with elems:=D.elems+1 }
def insN (D:CV) (t:TxV) (n:Nat):Nat→CV
 | 0=>D
 | i+1=>insStep (insN D t n i) t.id (t.clock,t.r,n+i)
def insD (D:CV) (t:TxV) (x:IdT) (n:Nat) (tx:Str):CV:=insN { D with A:=putG D.A x ⟨t.clock,t.r,n,t.r,n,tx,true⟩ } t n tx.length
structure InsR (D:CV) (k:IdT) (r n i l:Nat):Prop where
 new:∀j,i≤j→j < l→lookI D.lives (r,n+j)=none∧spOf D (r,n+j)=[]
 deed:∃d,lookI D.deeds k=some d∧d.touched.length+(l - i) < 2 ^ 30
 nsp:D.nsp+(l - i) < 2 ^ 60
 el:D.elems+(l - i) < 2 ^ 60
theorem touchD_deed {D:CV} {k e:IdT} {d:Dl} (hd:lookI D.deeds k=some d):∃d',lookI (touchD D k e).deeds k=some d'∧d'.touched.length≤d.touched.length+1∧d'.undone=d.undone∧d'.undoes=d.undoes:=by
 unfold touchD
 rw [hd]
 simp only
 split
 · exact⟨d,hd,by omega,rfl,rfl⟩
 · exact⟨{ d with touched:=d.touched++[e] },by rw [look_put,if_pos rfl],by simp,rfl,rfl⟩
theorem touchD_sp (D:CV) (k e:IdT):(touchD D k e).sp=D.sp∧(touchD D k e).nsp=D.nsp∧(touchD D k e).elems=D.elems∧(touchD D k e).A=D.A∧(touchD D k e).clock=D.clock:=by
 unfold touchD
 split
 · split <;> exact⟨rfl,rfl,rfl,rfl,rfl⟩
 · exact⟨rfl,rfl,rfl,rfl,rfl⟩
theorem spOf_add (D:CV) (k:IdT) (x:Sp) (e:IdT):spOf (addD D k x) e=if e=k then spOf D k++[x]else spOf D e:=by
 unfold addD spOf
 simp only
 rw [look_put]
 by_cases c:e=k
 · rw [if_pos c,if_pos c];rfl
 · rw [if_neg c,if_neg c]
theorem insStep_sp (D:CV) (k:IdT) (key:KeyT) (e:IdT):spOf (insStep D k key) e=if e=key.2 then spOf D key.2++[(key,k)]else spOf D e:=by
 have h1:spOf (insStep D k key) e=spOf (addD (makeD D k key.2) key.2 (key,k)) e:=rfl
 have h2:∀e,spOf (makeD D k key.2) e=spOf D e:=fun e=>by unfold makeD spOf;simp only;rw [(touchD_sp D k key.2).1]
 rw [h1,spOf_add,h2,h2]
theorem insStep_lives (D:CV) (k:IdT) (key:KeyT) (e:IdT):lookI (insStep D k key).lives e=if e=key.2 then some ⟨k,[]⟩else lookI D.lives e:=look_put _ _ _ _
theorem InsR.step {D:CV} {t:TxV} {n i l:Nat} (R:InsR D t.id t.r n i l) (hi:i < l):InsR (insStep D t.id (t.clock,t.r,n+i)) t.id t.r n (i+1) l:=by
 obtain⟨d,d1,d2⟩:=R.deed
 have hne:∀j,i+1≤j→((t.r,n+j):IdT)≠(t.r,n+i):=fun j hj e=>by simp at e;omega
 refine⟨fun j hj hl=>⟨?_,?_⟩,?_,?_,?_⟩
 · rw [insStep_lives,if_neg (hne j hj)]
   exact(R.new j (by omega) hl).1
 · rw [insStep_sp,if_neg (hne j hj)]
   exact(R.new j (by omega) hl).2
 · obtain⟨d',e1,e2,_⟩:=touchD_deed (e:=(t.r,n+i)) d1
   exact⟨d',e1,by omega⟩
 · have:=(touchD_sp D t.id (t.r,n+i)).2.1
   show(touchD D t.id (t.r,n+i)).nsp+1+_ < _
   rw [this];have:=R.nsp;omega
 · show D.elems+1+_ < _
   have:=R.el;omega
section
variable {ro:Nat→Option (List AVal)} {h:AHeap} {s:Nat} {D:CV} {O:Nat→Prop}
theorem cput_ev (hro:ro 0=some [.int .u16 0,.int .u32 0]) (C:CSt h s O D) {x:IdT} {r:RunV} {p0:Nat} (hx:x.2 < 2 ^ 32) (hr:RunOk r) (hp:plain r.text=true) (hpos:posA D.A x.1 x.2=some p0) (hhit:hitA D.A r=false) (hlen:D.A.length+r.text.length≤65536) {Q:AVal→AHeap→Prop}
 (hq:∀h' O',CSt h' s O' { D with A:=putG D.A x r }→Stp h O h' O'→Q (.int .i64 0) h'):Ev (cfgR ro) 115 [.ptr s 0,idA x.1 x.2,.agg r.cells] h Q:=by
 obtain⟨col,spm,dm,lm,fs,fd,fl,rfl,C⟩:=C
 refine gput_ok_ev hro C.st hx hr hp hpos hhit hlen (fun H R h' O' e1 e2 e3 S P=>?_)
 have e4:=tw_split (p:=fun z=>decide (klt r.key z.key)) (H:=H) (R:=R) (fun y l e=>decide_eq_false (e3 y l e)) (fun y hy=>decide_eq_true (e2 y hy))
 rw [←e1]at e4
 have e5:D.A.take p0++(H++(atomsOf r++R))=putG D.A x r:=by
  unfold putG grA
  rw [hpos,Option.getD_some,e4.1,e4.2]
 rw [e5]at S
 obtain⟨col',C',P'⟩:=C.ofStore S P
 exact hq h' _ ⟨col',_,_,_,_,_,_,rfl,C'⟩ P'
def opA (kind:Int) (x:IdT) (n:Nat) (tx:Str) (v:AVal) (seq:Nat):AVal:=.agg [.int .i64 kind,.int .u16 x.1,.int .u32 x.2,.int .u32 n,.str tx,v,.int .u32 seq]
theorem insert_ev (hro:ro 0=some [.int .u16 0,.int .u32 0]) (C:CSt h s O D) {t:TxV} {v v2:AVal} {kind:Int} {x:IdT} {n seq p0:Nat} {tx:Str} (hx:x.2 < 2 ^ 32) (hr:RunOk ⟨t.clock,t.r,n,t.r,n,tx,true⟩) (hp:plain tx=true) (hpos:posA D.A x.1 x.2=some p0) (hhit:hitA D.A ⟨t.clock,t.r,n,t.r,n,tx,true⟩=false) (hlen:D.A.length+tx.length≤65536) (R:InsR D t.id t.r n 0 tx.length) {Q:AVal→AHeap→Prop}
 (hq:∀h' O',CSt h' s O' (insD D t x n tx)→Stp h O h' O'→Q (.tuple []) h'):Ev (cfgR ro) 63 [.ptr s 0,txA t v,opA kind x n tx v2 seq] h Q:=by
 refine Ev.wp rfl rfl Tryz.func63 rfl ?_
 have hn2:=hr.n2
 simp only []at hn2
 simp -implicitDefEqProofs [Tryz.f63,txA,opA]
 refine txkey_ev (t:=t) (n:=n) ?_
 simp -implicitDefEqProofs [keyA,same_self]
 refine keyID_ev (c:=t.clock) (r:=t.r) (n:=n) ?_
 simp -implicitDefEqProofs [idA,same_self]
 refine cput_ev hro C (x:=x) (r:=⟨t.clock,t.r,n,t.r,n,tx,true⟩) hx hr hp hpos hhit hlen (fun h1 O1 C1 P1=>?_)
 simp -implicitDefEqProofs [same_self]
 obtain⟨D1,hD1⟩:∃D1,D1={ D with A:=putG D.A x ⟨t.clock,t.r,n,t.r,n,tx,true⟩ }:=⟨_,rfl⟩
 rw [←hD1]at C1
 have R1:InsR D1 t.id t.r n 0 tx.length:=by rw [hD1];exact⟨R.new,R.deed,R.nsp,R.el⟩
 obtain⟨I,hI⟩:∃I:Nat→List AVal→AHeap→Prop,I=fun m env h'=>∃(i:Nat) (O':Nat→Prop),i+m=tx.length∧CSt h' s O' (insN D1 t n i)∧InsR (insN D1 t n i) t.id t.r n i tx.length∧Stp h1 O1 h' O'∧
  env=(.ptr s 0 :: .dead :: .dead :: .dead :: .cell [.int .u16 t.r,.int .u32 t.seq,.int .u64 t.clock,.int .i64 t.user,v] :: .dead :: .cell [.int .u64 t.clock,.int .u16 t.r,.int .u32 n] :: .dead :: .dead :: .dead :: .dead :: .dead :: .dead :: .dead :: .dead :: .dead :: .dead :: .dead :: .dead :: .dead :: .dead :: .dead :: .dead :: .dead :: .dead :: .dead :: .dead :: .int .i64 (tx.length:Nat) :: .int .i64 (i:Nat) :: .dead :: .dead :: .dead :: .dead :: .dead :: .dead :: .dead :: .dead :: .dead :: .dead :: .dead :: .dead :: .dead :: .dead :: .dead :: .dead :: .dead :: .dead :: .dead :: .dead :: .dead :: .dead :: .dead :: .dead :: .dead :: .dead :: .dead :: .dead :: .dead :: .dead :: .dead :: []):=⟨_,rfl⟩
 refine loop_of I ?_ tx.length (by rw [hI];exact⟨0,O1,by omega,C1,R1,Stp.refl _ _,rfl⟩)
 intro m env h' hi
 rw [hI]at hi
 obtain⟨i,O',him,C',R',P',rfl⟩:=hi
 by_cases hlt:i < tx.length
 · have w1:IntKind.i64.wrap ((i:Int)+1)=((i+1:Nat):Int):=by rw [w64 (by omega) (by omega)];omega
   obtain⟨d,d1,d2⟩:=R'.deed
   obtain⟨r1,r2⟩:=R'.new i (Nat.le_refl _) hlt
   simp -implicitDefEqProofs [hlt,same_self]
   refine keyPlus_ev (c:=t.clock) (r:=t.r) (n:=n) (k:=i) (by omega) ?_
   obtain⟨ni,hni⟩:∃ni,ni=n+i:=⟨_,rfl⟩
   rw [←hni]at r1 r2 ⊢
   simp -implicitDefEqProofs [keyA,same_self]
   refine txid_ev (t:=t) ?_
   simp -implicitDefEqProofs [idA,same_self]
   refine keyID_ev (c:=t.clock) (r:=t.r) (n:=ni) ?_
   simp -implicitDefEqProofs [idA,same_self]
   refine make_ev C' (k:=t.id) (e:=(t.r,ni)) d1 r1 (by omega) (fun h2 O2 C2 P2=>?_)
   simp -implicitDefEqProofs [same_self]
   refine keyID_ev (c:=t.clock) (r:=t.r) (n:=ni) ?_
   simp -implicitDefEqProofs [idA,same_self]
   refine txid_ev (t:=t) ?_
   simp -implicitDefEqProofs [idA,same_self]
   have hsp:∀e,spOf (makeD (insN D1 t n i) t.id (t.r,ni)) e=spOf (insN D1 t n i) e:=fun e=>by unfold makeD spOf;simp only;rw [(touchD_sp _ _ _).1]
   have hnsp:(makeD (insN D1 t n i) t.id (t.r,ni)).nsp=(insN D1 t n i).nsp:=(touchD_sp _ _ _).2.1
   refine sadd_ev C2 (k:=(t.r,ni)) (x:=((t.clock,t.r,ni),t.id)) (by rw [hsp,r2];simp) (by rw [hsp,r2];simp) (by rw [hnsp];have:=R'.nsp;omega) (fun h3 O3 C3 P3=>?_)
   obtain⟨col3,spm,dm,lm,fs,fd,fl,rfl,X3⟩:=C3
   have hel:(addD (makeD (insN D1 t n i) t.id (t.r,ni)) (t.r,ni) ((t.clock,t.r,ni),t.id)).elems=(insN D1 t n i).elems:=(touchD_sp _ _ _).2.2.1
   obtain⟨p,sd,m',hr3,X4,P4⟩:=X3.num (addD (makeD (insN D1 t n i) t.id (t.r,ni)) (t.r,ni) ((t.clock,t.r,ni),t.id)).nsp (addD (makeD (insN D1 t n i) t.id (t.r,ni)) (t.r,ni) ((t.clock,t.r,ni),t.id)).clock ((insN D1 t n i).elems+1)
   rw [hel]at hr3
   have w2:IntKind.i64.wrap (((insN D1 t n i).elems:Int)+1)=(((insN D1 t n i).elems+1:Nat):Int):=by have:=R'.el;rw [w64 (by omega) (by omega)];omega
   have R2:=R'.step hlt
   rw [←hni]at R2
   have e5:insN D1 t n (i+1)=insStep (insN D1 t n i) t.id (t.clock,t.r,ni):=by rw [hni];rfl
   simp -implicitDefEqProofs [hr3,w1,w2,same_self]
   exact .mk (m:=m - 1) (by omega) (by rw [hI];exact⟨i+1,_,by omega,by rw [e5];exact⟨col3,_,_,_,_,_,_,rfl,X4⟩,by rw [e5];exact R2,((P'.trans P2).trans P3).trans P4,rfl⟩)
 · have hie:i=tx.length:=by omega
   subst hie
   simp -implicitDefEqProofs [hlt]
   have e:insN D1 t n tx.length=insD D t x n tx:=by rw [hD1];rfl
   rw [e]at C'
   exact hq h' O' C' (P1.trans P')
end
end Go.Proofs.YtlhlbamcgopiiaaGreatDoor
set_option linter.all false
set_option maxRecDepth 100000
set_option maxHeartbeats 4000000
namespace Go.Proofs.YtlhlbamcgopiiaaGreatDoor
open Go Go.RowKit Go.Proofs
structure RenB (D:CV) (e:IdT):Prop where
 l:(spOf D e).length < 2 ^ 30
 x:∀x∈spOf D e,x.1.2.2 < 2 ^ 32
 g:∀l,lookI D.lives e=some l→l.gone.length < 2 ^ 30
def movStep (D:CV) (k e:IdT) (key:KeyT):CV:=renewD (addD (touchD D k e) e (key,k)) e
def movN (D:CV) (t:TxV) (s:Sn) (n:Nat):Nat→CV
 | 0=>D
 | i+1=>movStep (movN D t s n i) t.id (plusI s.1 i) (t.clock,t.r,n+i)
def movRun (A:List AtV) (t:TxV) (s:Sn) (n:Nat):RunV:=⟨t.clock,t.r,n,s.1.1,s.1.2,spanTx A s,false⟩
def movPut (D:CV) (t:TxV) (s:Sn) (x:IdT) (n:Nat):CV:={ D with A:=putG D.A x (movRun D.A t s n) }
def movS (D:CV) (t:TxV) (s:Sn) (x:IdT) (n:Nat):CV:=movN (movPut D t s x n) t s n s.2
def movL (D:CV) (t:TxV) (x:IdT) (n:Nat):List Sn→CV
 | []=>D
 | s :: l=>movL (movS D t s x n) t (t.r,n+(s.2 - 1)) (n+s.2) l
structure StepM (D:CV) (t:TxV) (e:IdT) (n:Nat):Prop where
 lv:∃l,lookI D.lives e=some l
 dd:∃d,lookI D.deeds t.id=some d∧d.touched.length < 2 ^ 30
 sp:∀y∈spOf D e,y.1≠(t.clock,t.r,n)
 sl:(spOf D e).length < 2 ^ 30
 np:D.nsp < 2 ^ 60
 rb:RenB (addD (touchD D t.id e) e ((t.clock,t.r,n),t.id)) e
structure SpanM (D:CV) (t:TxV) (s:Sn) (x:IdT) (n:Nat):Prop where
 xl:x.2 < 2 ^ 32
 r:RunOk (movRun D.A t s n)
 p:plain (spanTx D.A s)=true
 pos:∃p,posA D.A x.1 x.2=some p
 hit:hitA D.A (movRun D.A t s n)=false
 len:D.A.length+s.2≤65536
 st:∀i,i < s.2→StepM (movN (movPut D t s x n) t s n i) t (plusI s.1 i) (n+i)
def MovOk (D:CV) (t:TxV) (x:IdT) (n:Nat):List Sn→Prop
 | []=>True
 | s :: l=>SpanM D t s x n∧MovOk (movS D t s x n) t (t.r,n+(s.2 - 1)) (n+s.2) l
theorem spanTx_len (A:List AtV) (s:Sn):(spanTx A s).length=s.2:=by unfold spanTx;rw [List.length_map,idsS_len]
section
variable {ro:Nat→Option (List AVal)} {h:AHeap} {s:Nat} {D:CV} {O:Nat→Prop}
theorem move_ev (hro:ro 0=some [.int .u16 0,.int .u32 0]) (C:CSt h s O D) {t:TxV} {v v2:AVal} {kind:Int} {x:IdT} {n seq:Nat} {tx:Str} {l:List Sn} (hl:l.length < 2 ^ 40) (hsl:∀h' O',Stp h O h' O'→Sl (cfgR ro) h' 3 v2 (l.map snc)) (M:MovOk D t x n l) {Q:AVal→AHeap→Prop}
 (hq:∀h' O',CSt h' s O' (movL D t x n l)→Stp h O h' O'→Q (.tuple []) h'):Ev (cfgR ro) 67 [.ptr s 0,txA t v,opA kind x n tx v2 seq] h Q:=by
 refine Ev.wp rfl rfl Tryz.func67 rfl ?_
 simp -implicitDefEqProofs [Tryz.f67,txA,opA]
 refine txkey_ev (t:=t) (n:=n) ?_
 have hL:=lenSn (hsl h O (Stp.refl _ _))
 simp -implicitDefEqProofs [keyA,same_self,hL]
 obtain⟨I,hI⟩:∃I:Nat→List AVal→AHeap→Prop,I=fun m env h'=>∃(l1 l2:List Sn) (O':Nat→Prop) (D':CV) (x':IdT) (n':Nat),l=l1++l2∧m=l2.length∧CSt h' s O' D'∧Stp h O h' O'∧MovOk D' t x' n' l2∧movL D' t x' n' l2=movL D t x n l∧
  env=(.ptr s 0 :: .dead :: .dead :: .dead :: .cell [.int .u16 t.r,.int .u32 t.seq,.int .u64 t.clock,.int .i64 t.user,v] :: .dead :: .cell [.int .u64 t.clock,.int .u16 t.r,.int .u32 n'] :: .cell [.int .u16 x'.1,.int .u32 x'.2] :: .dead :: .dead :: .dead :: .dead :: .dead :: .dead :: .dead :: .dead :: .dead :: .dead :: .dead :: v2 :: .int .i64 (l.length:Nat) :: .int .i64 (l1.length:Nat) :: .dead :: .dead :: .dead :: .dead :: .dead :: .dead :: .dead :: .dead :: .dead :: .dead :: .dead :: .dead :: .dead :: .dead :: .dead :: .dead :: .dead :: .dead :: .dead :: .dead :: .dead :: .dead :: .dead :: .dead :: .dead :: .dead :: .dead :: .dead :: .dead :: .dead :: .dead :: .dead :: .dead :: .dead :: .dead :: .dead :: .dead :: .dead :: .dead :: .dead :: .dead :: .dead :: .dead :: .dead :: .dead :: .dead :: .dead :: .dead :: .dead :: .dead :: .dead :: .dead :: .dead :: .dead :: .dead :: .dead :: .dead :: .dead :: .dead :: []):=⟨_,rfl⟩
 refine loop_of I ?_ l.length (by rw [hI];exact⟨[],l,O,D,x,n,rfl,rfl,C,Stp.refl _ _,M,rfl,rfl⟩)
 intro m env h' hi
 rw [hI]at hi
 obtain⟨l1,l2,O',D',x',n',hll,rfl,C',P',M',hD',rfl⟩:=hi
 have hlen:l.length=l1.length+l2.length:=by rw [hll,List.length_append]
 cases l2 with
 | nil=>
  have hnl:¬l1.length < l.length:=by simp at hlen;omega
  simp -implicitDefEqProofs [hnl]
  have e:movL D' t x' n' []=D':=rfl
  rw [←e,hD']at C'
  exact hq h' O' C' P'
 | cons z l2=>
  obtain⟨M1,M2⟩:=M'
  have hlt:l1.length < l.length:=by simp at hlen;omega
  have hz:l[l1.length]?=some z:=by rw [hll];simp
  have E:=Esn.of (hsl h' O' P') hz
  have hr:=M1.r
  have hn2:=hr.n2
  have he2:=hr.e2
  have hpos:=hr.pos
  have hlz:=hr.len
  simp only [movRun,spanTx_len]at hn2 he2 hpos hlz
  simp -implicitDefEqProofs [hlt,E.x,E.l,same_self]
  refine bytes_ev C' (x:=z) (by omega) (fun h1 o1=>?_)
  have C1:=C'.old o1
  have P1:=P'.trans (Stp.ofOld O' o1)
  simp -implicitDefEqProofs [same_self]
  obtain⟨p0,hp0⟩:=M1.pos
  refine cput_ev hro C1 (x:=x') (r:=movRun D'.A t z n') M1.xl M1.r M1.p hp0 M1.hit (by have:=M1.len;simp only [movRun,spanTx_len];omega) (fun h2 O2 C2 P2=>?_)
  have P2:=P1.trans P2
  simp -implicitDefEqProofs [same_self]
  obtain⟨tz,htz⟩:∃tz,tz=spanTx D'.A z:=⟨_,rfl⟩
  rw [←htz]
  obtain⟨D2,hD2⟩:∃D2,D2=movPut D' t z x' n':=⟨_,rfl⟩
  have C2:CSt h2 s O2 D2:=by rw [hD2];exact C2
  have hst:=M1.st
  rw [←hD2]at hst
  obtain⟨J,hJ⟩:∃J:Nat→List AVal→AHeap→Prop,J=fun m2 env h3=>∃(i:Nat) (O3:Nat→Prop),i+m2=z.2∧CSt h3 s O3 (movN D2 t z n' i)∧Stp h O h3 O3∧
   env=(.ptr s 0 :: .dead :: .dead :: .dead :: .cell [.int .u16 t.r,.int .u32 t.seq,.int .u64 t.clock,.int .i64 t.user,v] :: .dead :: .cell [.int .u64 t.clock,.int .u16 t.r,.int .u32 n'] :: .cell [.int .u16 x'.1,.int .u32 x'.2] :: .dead :: .cell [.int .u16 z.1.1,.int .u32 z.1.2,.int .i64 (z.2:Nat)] :: .cell [.int .u64 t.clock,.int .u16 t.r,.int .u32 n',.int .u16 z.1.1,.int .u32 z.1.2,.str tz,.bool false] :: .dead :: .dead :: .dead :: .dead :: .dead :: .dead :: .dead :: .dead :: v2 :: .int .i64 (l.length:Nat) :: .int .i64 (l1.length:Nat) :: .dead :: .dead :: .dead :: .dead :: .dead :: .dead :: .dead :: .dead :: .dead :: .dead :: .dead :: .dead :: .dead :: .dead :: .dead :: .dead :: .dead :: .int .i64 (z.2:Nat) :: .int .i64 (i:Nat) :: .dead :: .dead :: .dead :: .dead :: .dead :: .dead :: .dead :: .dead :: .dead :: .dead :: .dead :: .dead :: .dead :: .dead :: .dead :: .dead :: .dead :: .dead :: .dead :: .dead :: .dead :: .dead :: .dead :: .dead :: .dead :: .dead :: .dead :: .dead :: .dead :: .dead :: .dead :: .dead :: .dead :: .dead :: .dead :: .dead :: .dead :: .dead :: .dead :: .dead :: []):=⟨_,rfl⟩
  refine loop_of J ?_ z.2 (by rw [hJ];exact⟨0,O2,by omega,C2,P2,rfl⟩)
  intro m2 env h3 hj
  rw [hJ]at hj
  obtain⟨i,O3,him,C3,P3,rfl⟩:=hj
  by_cases hlt2:i < z.2
  · have S:=hst i hlt2
    have w1:IntKind.i64.wrap ((i:Int)+1)=((i+1:Nat):Int):=by rw [w64 (by omega) (by omega)];omega
    obtain⟨lv,e1⟩:=S.lv
    obtain⟨dd,e2,e3⟩:=S.dd
    have s3:=S.sp
    have s4:=S.sl
    have s5:=S.np
    have s6:=S.rb
    unfold plusI at e1 s3 s4 s6
    obtain⟨zi,hzi⟩:∃zi,zi=z.1.2+i:=⟨_,rfl⟩
    obtain⟨ni,hni⟩:∃ni,ni=n'+i:=⟨_,rfl⟩
    rw [←hzi]at e1 s3 s4 s6
    rw [←hni]at s3 s6
    simp -implicitDefEqProofs [hlt2,same_self]
    refine txid_ev (t:=t) ?_
    simp -implicitDefEqProofs [idA,same_self]
    refine idPlus_ev (r:=z.1.1) (n:=z.1.2) (k:=i) (by omega) ?_
    rw [←hzi]
    simp -implicitDefEqProofs [idA,same_self]
    refine touchE_ev C3 (k:=t.id) (e:=(z.1.1,zi)) e2 e1 e3 (fun h4 O4 C4 P4=>?_)
    simp -implicitDefEqProofs [idA,same_self]
    refine idPlus_ev (r:=z.1.1) (n:=z.1.2) (k:=i) (by omega) ?_
    rw [←hzi]
    simp -implicitDefEqProofs [idA,same_self]
    refine keyPlus_ev (c:=t.clock) (r:=t.r) (n:=n') (k:=i) (by omega) ?_
    rw [←hni]
    simp -implicitDefEqProofs [keyA,same_self]
    refine txid_ev (t:=t) ?_
    simp -implicitDefEqProofs [idA,same_self]
    have hsp:∀e,spOf (touchD (movN D2 t z n' i) t.id (z.1.1,zi)) e=spOf (movN D2 t z n' i) e:=fun e=>by unfold spOf;rw [(touchD_sp _ _ _).1]
    refine sadd_ev C4 (k:=(z.1.1,zi)) (x:=((t.clock,t.r,ni),t.id)) (by rw [hsp];exact s3) (by rw [hsp];exact s4) (by rw [(touchD_sp _ _ _).2.1];exact s5) (fun h5 O5 C5 P5=>?_)
    simp -implicitDefEqProofs [idA,same_self]
    refine idPlus_ev (r:=z.1.1) (n:=z.1.2) (k:=i) (by omega) ?_
    rw [←hzi]
    simp -implicitDefEqProofs [idA,same_self]
    refine crenew_ev C5 (e:=(z.1.1,zi)) s6.l s6.x s6.g (fun h6 O6 C6 P6=>?_)
    simp -implicitDefEqProofs [w1,same_self]
    have e5:movN D2 t z n' (i+1)=movStep (movN D2 t z n' i) t.id (z.1.1,zi) (t.clock,t.r,ni):=by rw [hni,hzi];rfl
    exact .mk (m:=m2 - 1) (by omega) (by rw [hJ];exact⟨i+1,O6,by omega,by rw [e5];exact C6,((P3.trans P4).trans P5).trans P6,rfl⟩)
  · have hie:i=z.2:=by omega
    subst hie
    have w1:IntKind.i64.wrap ((l1.length:Int)+1)=((l1.length+1:Nat):Int):=by rw [w64 (by omega) (by omega)];omega
    have hlast:∀K:AVal→AHeap→Prop,K (.agg [.int .u16 t.r,.int .u32 ((n'+(z.2 - 1):Nat):Int)]) h3→Ev (cfgR ro) 125 [.agg [.int .u64 t.clock,.int .u16 t.r,.int .u32 n',.int .u16 z.1.1,.int .u32 z.1.2,.str tz,.bool false]] h3 K:=fun K hK=>by
     rw [htz]
     exact rLast_ev (x:=movRun D'.A t z n') (by simp only [movRun,spanTx_len];omega) (by simp only [movRun,spanTx_len];omega) (by simp only [movRun,spanTx_len,idA];exact hK)
    simp -implicitDefEqProofs [hlt2,same_self]
    refine hlast _ ?_
    obtain⟨nl,hnl⟩:∃nl,nl=n'+(z.2 - 1):=⟨_,rfl⟩
    rw [←hnl]at M2 ⊢
    simp -implicitDefEqProofs [same_self]
    refine keyPlus_ev (c:=t.clock) (r:=t.r) (n:=n') (k:=z.2) (by omega) ?_
    simp -implicitDefEqProofs [keyA,same_self,w1]
    refine .mk (m:=l2.length) (by simp) (by
     rw [hI]
     refine⟨l1++[z],l2,O3,movS D' t z x' n',(t.r,nl),n'+z.2,by rw [hll];simp,rfl,by unfold movS;rw [←hD2];exact C3,P3,M2,by rw [hnl];exact hD',by simp⟩)
end
end Go.Proofs.YtlhlbamcgopiiaaGreatDoor
set_option linter.all false
set_option maxRecDepth 100000
set_option maxHeartbeats 4000000
namespace Go.Proofs.YtlhlbamcgopiiaaGreatDoor
open Go Go.RowKit Go.Proofs
def beginD (D:CV) (k:IdT) (u:Bool) (c:Nat):CV:={ D with deeds:=putI D.deeds k ⟨0,[],u⟩,clock:=max D.clock c }
def delStep (D:CV) (k e:IdT):CV:=renewD (letD (touchD D k e) k e) e
def delL (D:CV) (k:IdT) (l:List IdT):CV:=l.foldl (fun D e=>delStep D k e) D
def renL (D:CV) (l:List IdT):CV:=l.foldl renewD D
structure StepX (D:CV) (k e:IdT):Prop where
 lv:∃l,lookI D.lives e=some l∧l.gone.length < 2 ^ 30
 dd:∃d,lookI D.deeds k=some d∧d.touched.length < 2 ^ 30
 rb:RenB (letD (touchD D k e) k e) e
def DelOk:CV→IdT→List IdT→Prop
 | _,_,[]=>True
 | D,k,e :: l=>StepX D k e∧DelOk (delStep D k e) k l
section
variable {ro:Nat→Option (List AVal)} {h:AHeap} {s:Nat} {D:CV} {O:Nat→Prop}
theorem begin_ev (C:CSt h s O D) {t:TxV} {v:AVal} {u:Bool} (hk:lookI D.deeds t.id=none) (hU:∀K:AVal→AHeap→Prop,(∀a b:Nat,K (.tuple [.agg [.int .u16 a,.int .u32 b],.bool u]) h)→Ev (cfgR ro) 58 [txA t v] h K) {Q:AVal→AHeap→Prop}
 (hq:∀h' O',CSt h' s O' (beginD D t.id u t.clock)→Stp h O h' O'→Q (.tuple []) h'):Ev (cfgR ro) 14 [.ptr s 0,txA t v] h Q:=by
 refine Ev.wp rfl rfl Tryz.func14 rfl ?_
 simp -implicitDefEqProofs [Tryz.f14,txA]
 refine hU _ (fun a b=>?_)
 simp -implicitDefEqProofs [same_self]
 refine txid_ev (t:=t) ?_
 simp -implicitDefEqProofs [idA,same_self]
 refine tknow_ev C (k:=t.id) hk (fun h1 O1 C1 P1=>?_)
 obtain⟨col1,spm,dm,lm,fs,fd,fl,rfl,X1⟩:=C1
 obtain⟨p,sd,m',hr,X2,P2⟩:=X1.num D.nsp (max D.clock t.clock) D.elems
 have hm:((max D.clock t.clock:Nat):Int)=max (D.clock:Int) (t.clock:Int):=by omega
 have hr':h1.get s=some (.row 0 false [p,.int .u64 sd,m',spm,.int .i64 (D.nsp:Nat),dm,lm,.int .u64 (D.clock:Nat),.int .i64 (D.elems:Nat)]):=hr
 have hmx:foldR max2R (.int .u64 (D.clock:Nat)) [.int .u64 (t.clock:Nat)]=.ok (.int .u64 ((max D.clock t.clock:Nat):Int)):=by
  rw [hm]
  unfold foldR foldR max2R
  by_cases c:(D.clock:Int) < (t.clock:Int)
  · simp [Int.max_eq_right (Int.le_of_lt c),c]
  · simp [Int.max_eq_left (Int.not_lt.1 c),c]
 simp -implicitDefEqProofs [hr',hmx,same_self]
 exact⟨.inl (by decide +kernel),hq _ _ ⟨col1,_,_,_,_,_,_,rfl,X2⟩ (P1.trans P2)⟩
theorem op_del_ev (C:CSt h s O D) {t:TxV} {v v2:AVal} {x:IdT} {n seq:Nat} {tx:Str} {l:List Sn} (hl:l.length < 2 ^ 40) (hok:∀s∈l,s.1.2+s.2 < 2 ^ 32) (hn:(idsOf l).length < 2 ^ 30) (hsl:Sl (cfgR ro) h 3 v2 (l.map snc)) (M:DelOk D t.id (idsOf l)) {Q:AVal→AHeap→Prop}
 (hq:∀h' O',CSt h' s O' (delL D t.id (idsOf l))→Stp h O h' O'→Q (.tuple []) h'):Ev (cfgR ro) 16 [.ptr s 0,txA t v,opA 2 x n tx v2 seq] h Q:=by
 refine Ev.wp rfl rfl Tryz.func16 rfl ?_
 simp -implicitDefEqProofs [Tryz.f16,txA,opA]
 refine ids_ev hsl hl hok hn (fun w h1 o1 mw=>?_)
 have C1:=C.old o1
 have hL:=lenI (mw.sl (c:=cfgR ro))
 simp -implicitDefEqProofs [hL]
 obtain⟨I,hI⟩:∃I:Nat→List AVal→AHeap→Prop,I=fun m env h'=>∃(l1 l2:List IdT) (O':Nat→Prop) (D':CV),idsOf l=l1++l2∧m=l2.length∧CSt h' s O' D'∧Stp h1 O h' O'∧DelOk D' t.id l2∧delL D' t.id l2=delL D t.id (idsOf l)∧Mine h h' 2 ((idsOf l).map idc) w∧(∀o,vobj w o→¬O' o)∧
  env=(.ptr s 0 :: .dead :: .dead :: .dead :: .cell [.int .u16 t.r,.int .u32 t.seq,.int .u64 t.clock,.int .i64 t.user,v] :: .dead :: .dead :: .dead :: .dead :: .dead :: .dead :: .dead :: .dead :: .dead :: .dead :: .dead :: .dead :: .dead :: .dead :: .dead :: .dead :: .dead :: .dead :: .dead :: .dead :: .dead :: .dead :: .dead :: .dead :: .dead :: .dead :: .dead :: .dead :: .dead :: .dead :: .dead :: .dead :: .dead :: .dead :: .dead :: .dead :: .dead :: .dead :: .dead :: .dead :: .dead :: .dead :: .dead :: .dead :: w :: .int .i64 ((idsOf l).length:Nat) :: .int .i64 (l1.length:Nat) :: .dead :: .dead :: .dead :: .dead :: .dead :: .dead :: .dead :: .dead :: .dead :: .dead :: .dead :: .dead :: .dead :: .dead :: .dead :: .dead :: .dead :: .dead :: .dead :: .dead :: []):=⟨_,rfl⟩
 refine loop_of I ?_ (idsOf l).length (by rw [hI];exact⟨[],idsOf l,O,D,rfl,rfl,C1,Stp.refl _ _,M,rfl,mw,fun o ho hO=>by have:=mw.obj o ho;have:=C.lt o hO;omega,rfl⟩)
 intro m env h' hi
 rw [hI]at hi
 obtain⟨l1,l2,O',D',hll,rfl,C',P',M',hD',mw',hno,rfl⟩:=hi
 have hlen:(idsOf l).length=l1.length+l2.length:=by rw [hll,List.length_append]
 cases l2 with
 | nil=>
  have hnl:¬l1.length < (idsOf l).length:=by simp at hlen;omega
  simp -implicitDefEqProofs [hnl]
  have e:delL D' t.id []=D':=rfl
  rw [←e,hD']at C'
  exact hq h' O' C' ((Stp.ofOld _ o1).trans P')
 | cons e l2=>
  obtain⟨M1,M2⟩:=M'
  have hlt:l1.length < (idsOf l).length:=by simp at hlen;omega
  have hz:(idsOf l)[l1.length]?=some e:=by rw [hll];simp
  have E:=Ei.of (mw'.sl (c:=cfgR ro)) hz
  have w1:IntKind.i64.wrap ((l1.length:Int)+1)=((l1.length+1:Nat):Int):=by rw [w64 (by omega) (by omega)];omega
  obtain⟨lv,a1,a2⟩:=M1.lv
  obtain⟨dd,b1,b2⟩:=M1.dd
  simp -implicitDefEqProofs [hlt,E.x,E.l,same_self]
  refine txid_ev (t:=t) ?_
  simp -implicitDefEqProofs [idA,same_self]
  refine letgo_ev C' (k:=t.id) (e:=e) b1 a1 b2 a2 (fun h2 O2 C2 P2=>?_)
  simp -implicitDefEqProofs [idA,same_self]
  refine crenew_ev C2 (e:=e) M1.rb.l M1.rb.x M1.rb.g (fun h3 O3 C3 P3=>?_)
  simp -implicitDefEqProofs [w1,same_self]
  have P:=P2.trans P3
  exact .mk (m:=l2.length) (by simp) (by rw [hI];exact⟨l1++[e],l2,O3,delStep D' t.id e,by rw [hll];simp,rfl,C3,P'.trans P,M2,hD',mw'.keepO (fun o ho=>P.keep o (mw'.obj o ho).2 (hno o ho)) P.nx,fun o ho hO=>by
   rcases P.own o hO with h5 | h5
   · exact hno o ho h5
   · have:=(mw'.obj o ho).2;omega,by simp⟩)
theorem op_ins_ev (hro:ro 0=some [.int .u16 0,.int .u32 0]) (C:CSt h s O D) {t:TxV} {v v2:AVal} {x:IdT} {n seq p0:Nat} {tx:Str} (hx:x.2 < 2 ^ 32) (hr:RunOk ⟨t.clock,t.r,n,t.r,n,tx,true⟩) (hp:plain tx=true) (hpos:posA D.A x.1 x.2=some p0) (hhit:hitA D.A ⟨t.clock,t.r,n,t.r,n,tx,true⟩=false) (hlen:D.A.length+tx.length≤65536) (R:InsR D t.id t.r n 0 tx.length) {Q:AVal→AHeap→Prop}
 (hq:∀h' O',CSt h' s O' (insD D t x n tx)→Stp h O h' O'→Q (.tuple []) h'):Ev (cfgR ro) 16 [.ptr s 0,txA t v,opA 1 x n tx v2 seq] h Q:=by
 refine Ev.wp rfl rfl Tryz.func16 rfl ?_
 have hI:=fun K:AVal→AHeap→Prop=>insert_ev hro C (t:=t) (v:=v) (v2:=v2) (kind:=1) (seq:=seq) hx hr hp hpos hhit hlen R (Q:=K)
 simp only [txA,opA]at hI
 simp -implicitDefEqProofs [Tryz.f16,txA,opA]
 refine hI _ (fun h1 O1 C1 P1=>?_)
 simp -implicitDefEqProofs
 exact hq h1 O1 C1 P1
theorem op_mov_ev (hro:ro 0=some [.int .u16 0,.int .u32 0]) (C:CSt h s O D) {t:TxV} {v v2:AVal} {x:IdT} {n seq:Nat} {tx:Str} {l:List Sn} (hl:l.length < 2 ^ 40) (hsl:∀h' O',Stp h O h' O'→Sl (cfgR ro) h' 3 v2 (l.map snc)) (M:MovOk D t x n l) {Q:AVal→AHeap→Prop}
 (hq:∀h' O',CSt h' s O' (movL D t x n l)→Stp h O h' O'→Q (.tuple []) h'):Ev (cfgR ro) 16 [.ptr s 0,txA t v,opA 3 x n tx v2 seq] h Q:=by
 refine Ev.wp rfl rfl Tryz.func16 rfl ?_
 have hI:=fun K:AVal→AHeap→Prop=>move_ev hro C (t:=t) (v:=v) (v2:=v2) (kind:=3) (seq:=seq) (tx:=tx) hl hsl M (Q:=K)
 simp only [txA,opA]at hI
 simp -implicitDefEqProofs [Tryz.f16,txA,opA]
 refine hI _ (fun h1 O1 C1 P1=>?_)
 simp -implicitDefEqProofs
 exact hq h1 O1 C1 P1
end
end Go.Proofs.YtlhlbamcgopiiaaGreatDoor
set_option linter.all false
set_option maxRecDepth 100000
set_option maxHeartbeats 4000000
namespace Go.Proofs.YtlhlbamcgopiiaaGreatDoor
open Go Go.RowKit Go.Proofs
def shL (A:List AtV):List AtV:=A.filter (·.shown)
theorem shL_len (A:List AtV):(shL A).length=(shownA A).length:=by simp [shL,shownA]
theorem shL_bytes (A:List AtV):(shL A).map (·.b)=shownA A:=rfl
theorem shL_at {A:List AtV} {k:Nat} {a:AtV} (h:A[k]?=some a) (hs:a.shown=true):(shL A)[(shownA (A.take k)).length]?=some a:=by
 obtain⟨h1,h2⟩:=List.getElem?_eq_some_iff.1 h
 have e:A=A.take k++a :: A.drop (k+1):=by
  rw [←h2,←List.drop_eq_getElem_cons h1,List.take_append_drop]
 have e2:shL A=shL (A.take k)++a :: shL (A.drop (k+1)):=by
  have:=congrArg shL e
  rw [this]
  unfold shL
  rw [List.filter_append,List.filter_cons,hs];rfl
 rw [e2,←shL_len,List.getElem?_append_right (Nat.le_refl _),Nat.sub_self];rfl
section
variable {ro:Nat→Option (List AVal)} {h:AHeap} {s:Nat} {D:CV} {O:Nat→Prop}
theorem ctext_ev (C:CSt h s O D) {Q:AVal→AHeap→Prop} (hq:∀h',Old h h'→Q (.str (shownA D.A)) h'):Ev (cfgR ro) 19 [.ptr s 0] h Q:=by
 obtain⟨col,spm,dm,lm,fs,fd,fl,rfl,C⟩:=C
 refine Ev.wp rfl rfl Tryz.func19 rfl ?_
 simp -implicitDefEqProofs [Tryz.f19]
 refine stext_ev C.st (fun h' o=>?_)
 simp -implicitDefEqProofs
 exact hq h' o
theorem cat_ev (C:CSt h s O D) {i:Int} {Q:AVal→AHeap→Prop} (hq1:∀(k:Nat) a h',(k:Int)=i→Old h h'→(shL D.A)[k]?=some a→Q (.tuple [.agg a.cells,.bool true]) h') (hq2:(i < 0∨((shL D.A).length:Int)≤i)→∀h',Old h h'→Q (.tuple [zeroAtom,.bool false]) h'):
 Ev (cfgR ro) 55 [.ptr s 0,.int .i64 i] h Q:=by
 obtain⟨col,spm,dm,lm,fs,fd,fl,rfl,C⟩:=C
 refine Ev.wp rfl rfl Tryz.func55 rfl ?_
 simp -implicitDefEqProofs [Tryz.f55]
 refine sat_ev C.st (fun k a h' o e1 e2 e3=>?_) (fun hn h' o=>?_)
 · have:=hq1 _ a h' e3 o (shL_at e1 e2)
   simp -implicitDefEqProofs [AtV.cells]
   exact this
 · have:=hq2 (by rw [shL_len];exact hn) h' o
   simp -implicitDefEqProofs [zeroAtom]
   exact this
end
end Go.Proofs.YtlhlbamcgopiiaaGreatDoor
set_option linter.all false
set_option maxRecDepth 100000
set_option maxHeartbeats 4000000
namespace Go.Proofs.YtlhlbamcgopiiaaGreatDoor
open Go Go.RowKit Go.Proofs
def ofStep (out:List Sn) (a:IdT):List Sn:=match out.getLast? with
 | some z=>if plusI z.1 z.2=a∧z.2 < 1024 then out.dropLast++[(z.1,z.2+1)]else out++[(a,1)]
 | none=>[(a,1)]
def ofIds (ids:List IdT):List Sn:=ids.foldl ofStep []
theorem ofIds_take {l:List IdT} {i:Nat} {a:IdT} (h:l[i]?=some a):ofIds (l.take (i+1))=ofStep (ofIds (l.take i)) a:=by
 obtain⟨h1,h2⟩:=List.getElem?_eq_some_iff.1 h
 unfold ofIds
 rw [List.take_succ_eq_append_getElem h1,h2,List.foldl_append];rfl
theorem last_of {l:List Sn} (h:l≠[]):∃A z,l=A++[z]:=⟨l.dropLast,l.getLast h,(List.dropLast_concat_getLast h).symm⟩
theorem ofStep_app (A:List Sn) (z:Sn) (a:IdT):ofStep (A++[z]) a=if plusI z.1 z.2=a∧z.2 < 1024 then A++[(z.1,z.2+1)]else A++[z]++[(a,1)]:=by
 unfold ofStep
 rw [List.getLast?_append]
 simp
structure OfOk (out:List Sn) (L:List IdT):Prop where
 ids:idsOf out=L
 pos:∀z∈out,1≤z.2∧z.2≤1024∧z.1∈L
 len:out.length≤L.length
theorem idsOf_append (A B:List Sn):idsOf (A++B)=idsOf A++idsOf B:=by unfold idsOf;simp
theorem idsOf_one (z:Sn):idsOf [z]=idsS z:=by unfold idsOf;simp
theorem OfOk.step {out:List Sn} {ids:List IdT} (k:OfOk out ids) (a:IdT):OfOk (ofStep out a) (ids++[a]):=by
 have h1:idsS (a,1)=[a]:=by simp [idsS,plusI]
 by_cases h:out=[]
 · subst h
   have:ids=[]:=by rw [←k.ids];rfl
   subst this
   refine⟨by show idsOf [(a,1)]=_;rw [idsOf_one,h1];rfl,fun z hz=>?_,by simp [ofStep]⟩
   have:z=(a,1):=by simpa [ofStep] using hz
   subst this
   exact⟨by simp,by simp,by simp⟩
 · obtain⟨A,z,rfl⟩:=last_of h
   have hz:=k.pos z (by simp)
   have hid:=k.ids
   rw [idsOf_append,idsOf_one]at hid
   have hlen:=k.len
   rw [List.length_append,List.length_singleton]at hlen
   rw [ofStep_app]
   by_cases c:plusI z.1 z.2=a∧z.2 < 1024
   · rw [if_pos c]
     refine⟨?_,fun y hy=>?_,by simp;omega⟩
     · rw [idsOf_append,idsOf_one]
       show idsOf A++(List.range (z.2+1)).map (plusI z.1)=_
       rw [idsS_succ,←List.append_assoc,c.1]
       show idsOf A++idsS z++[a]=_
       rw [hid]
     · rcases List.mem_append.1 hy with h1 | h1
       · obtain⟨b1,b2,b3⟩:=k.pos y (by simp [h1]);exact⟨b1,b2,by simp [b3]⟩
       · have:y=(z.1,z.2+1):=by simpa using h1
         subst this
         exact⟨by simp,by simp;omega,by simp only [];exact List.mem_append.2 (.inl hz.2.2)⟩
   · rw [if_neg c]
     refine⟨?_,fun y hy=>?_,by simp;omega⟩
     · rw [idsOf_append,idsOf_append,idsOf_one,idsOf_one,h1,hid]
     · rcases List.mem_append.1 hy with h2 | h2
       · obtain⟨b1,b2,b3⟩:=k.pos y h2;exact⟨b1,b2,by simp [b3]⟩
       · have:y=(a,1):=by simpa using h2
         subst this;exact⟨by simp,by simp,by simp⟩
theorem ofIds_ok (ids:List IdT):OfOk (ofIds ids) ids:=by
 have:∀i,i≤ids.length→OfOk (ofIds (ids.take i)) (ids.take i):=by
  intro i
  induction i with
  | zero=>intro _;exact⟨rfl,fun z hz=>(by simp [ofIds]at hz),by simp [ofIds]⟩
  | succ i ih=>
   intro hi
   have hg:=List.getElem?_eq_getElem (l:=ids) (i:=i) (by omega)
   rw [ofIds_take hg,List.take_succ_eq_append_getElem (by omega)]
   exact(ih (by omega)).step _
 have h:=this ids.length (Nat.le_refl _)
 rw [List.take_length]at h
 exact h
section
variable {ro:Nat→Option (List AVal)} {h:AHeap} {s:Nat} {D:CV} {O:Nat→Prop}
theorem over_last {X:List AVal} {a b c d:AVal}:overR (X++[a,b,c]) (X.length+2) [d]=.ok (X++[a,b,d]):=by
 unfold overR
 rw [if_pos (by simp)]
 have e1:(X++[a,b,c]).take (X.length+2)=X++[a,b]:=by
  rw [List.take_append,List.take_of_length_le (by omega)];simp
 have e2:(X++[a,b,c]).drop (X.length+2+1)=[]:=List.drop_of_length_le (by simp)
 rw [e1,List.length_singleton,e2];simp
theorem of_ev {v:AVal} {l:List IdT} (hs:Sl (cfgR ro) h 2 v (l.map idc)) (hl:l.length < 2 ^ 30) (hb:∀a∈l,a.2 < 2 ^ 30) {Q:AVal→AHeap→Prop} (hq:∀v' h',Old h h'→Mine h h' 3 ((ofIds l).map snc) v'→Q v' h'):Ev (cfgR ro) 113 [v] h Q:=by
 refine Ev.wp rfl rfl Tryz.func113 rfl ?_
 have hL:=lenI hs
 simp -implicitDefEqProofs [Tryz.f113,hL]
 obtain⟨I,hI⟩:∃I:Nat→List AVal→AHeap→Prop,I=fun m env h'=>Old h h'∧∃(i:Nat) (w:AVal),i+m=l.length∧Mine h h' 3 ((ofIds (l.take i)).map snc) w∧
  env=(.dead :: .dead :: .dead :: w :: .dead :: .dead :: .dead :: v :: .int .i64 (l.length:Nat) :: .int .i64 (i:Nat) :: .dead :: .dead :: .dead :: .dead :: .dead :: .dead :: .dead :: .dead :: .dead :: .dead :: .dead :: .dead :: .dead :: .dead :: .dead :: .dead :: .dead :: .dead :: .dead :: .dead :: .dead :: .dead :: .dead :: .dead :: .dead :: .dead :: .dead :: .dead :: .dead :: .dead :: .dead :: .dead :: .dead :: .dead :: .dead :: .dead :: .dead :: .dead :: .dead :: .dead :: .dead :: .dead :: .dead :: .dead :: .dead :: .dead :: .dead :: .dead :: .dead :: []):=⟨_,rfl⟩
 refine loop_of I ?_ l.length (by rw [hI];exact⟨Old.refl h,0,.nils,by omega,Mine.nil _ _ _,rfl⟩)
 intro m env h' hi
 rw [hI]at hi
 obtain⟨oo,i,w,him,hm,rfl⟩:=hi
 by_cases hlt:i < l.length
 · obtain⟨a,ha⟩:∃a,l[i]?=some a:=⟨_,List.getElem?_eq_getElem hlt⟩
   have E:=Ei.of (hs.old oo) ha
   have w1:IntKind.i64.wrap ((i:Int)+1)=((i+1:Nat):Int):=by rw [w64 (by omega) (by omega)];omega
   have ok:=ofIds_ok (l.take i)
   have htk:=ofIds_take ha
   have hol:(ofIds (l.take i)).length≤i:=by have:=ok.len;rw [List.length_take]at this;omega
   have hLo:=lenSn (hm.sl (c:=cfgR ro))
   obtain⟨out,hout⟩:∃out,out=ofIds (l.take i):=⟨_,rfl⟩
   rw [←hout]at hm ok htk hol hLo
   have more:ofStep out a=out++[(a,1)]→∃w2 h2,appCore 3 16 (h'.push (.row 3 false [.int .u16 a.1,.int .u32 a.2,.int .i64 1])) w 1 [.int .u16 a.1,.int .u32 a.2,.int .i64 1]=.ok (w2,h2)∧
    headK I m (.dead :: .dead :: .dead :: w2 :: .dead :: .dead :: .dead :: v :: .int .i64 (l.length:Nat) :: .int .i64 (i+1:Nat) :: .dead :: .dead :: .dead :: .dead :: .dead :: .dead :: .dead :: .dead :: .dead :: .dead :: .dead :: .dead :: .dead :: .dead :: .dead :: .dead :: .dead :: .dead :: .dead :: .dead :: .dead :: .dead :: .dead :: .dead :: .dead :: .dead :: .dead :: .dead :: .dead :: .dead :: .dead :: .dead :: .dead :: .dead :: .dead :: .dead :: .dead :: .dead :: .dead :: .dead :: .dead :: .dead :: .dead :: .dead :: .dead :: .dead :: .dead :: .dead :: .dead :: []) h2:=by
    intro e
    have op:Old h' (h'.push (.row 3 false [.int .u16 a.1,.int .u32 a.2,.int .i64 1])):=(Old.refl h').push _
    obtain⟨w2,h2,k1,k2,k3⟩:=Mine.append1 (bytes:=16) (e:=[.int .u16 a.1,.int .u32 a.2,.int .i64 1]) (hm.keep op) (by decide) rfl (by rw [List.length_map];omega) (oo.trans op)
    exact⟨w2,h2,k1,.mk (m:=m - 1) (by omega) (by rw [hI];exact⟨k3,i+1,w2,by omega,by rw [htk,e,List.map_append];exact k2,rfl⟩)⟩
   simp -implicitDefEqProofs [hlt,E.x,E.l,same_self,hLo]
   by_cases hn:out=[]
   · subst hn
     obtain⟨w2,h2,k1,k2⟩:=more rfl
     simp -implicitDefEqProofs [same_self,buildSliceR,reps,k1,w1]
     exact k2
   · obtain⟨A,z,rfl⟩:=last_of hn
     have hz:=ok.pos z (by simp)
     have hzb:z.1.2 < 2 ^ 30:=hb _ (List.mem_of_mem_take hz.2.2)
     have hlz:(A++[z]).length=A.length+1:=by simp
     rw [hlz]at hol
     have hp:0 < (A++[z]).length:=by rw [hlz];omega
     have w2:IntKind.i64.wrap (((A++[z]).length:Int) - 1)=(A.length:Int):=by rw [w64 (by rw [hlz];omega) (by rw [hlz];omega),hlz];omega
     have hm':=hm
     obtain⟨m1,m2⟩:=hm'
     obtain⟨q,fz,rfl,g1,g2,g3⟩:∃q fz,w=.sl q 0 (A.length+1)∧h.next≤q∧q < h'.next∧h'.get q=some (.row 3 fz ((A.map snc).flatten++[.int .u16 z.1.1,.int .u32 z.1.2,.int .i64 (z.2:Nat)])):=by
      rcases m2 with ⟨e,_⟩ | ⟨q,fz,e,g1,g2,g3⟩
      · simp at e
      · exact⟨q,fz,by rw [e];simp,g1,g2,by rw [g3];simp [snc]⟩
     obtain⟨X,hXd⟩:∃X,X=(A.map snc).flatten:=⟨_,rfl⟩
     have hXl:X.length=A.length * 3:=by
      rw [hXd,flat_len (sz:=3) (fun e he=>by obtain⟨a,_,rfl⟩:=List.mem_map.1 he;rfl),List.length_map]
     have wA:IntKind.i64.wrap (A.length:Int)=(A.length:Int):=w64 (by omega) (by omega)
     have ixA:idxNat (.int .i64 (A.length:Int)) (A.length+1)=.ok A.length:=ix_nat (by omega)
     rw [←hXd]at g3
     have tk0:takeR (X++[.int .u16 z.1.1,.int .u32 z.1.2,.int .i64 (z.2:Nat)]) (A.length * 3) 2=.ok [.int .u16 z.1.1,.int .u32 z.1.2]:=by
      unfold takeR
      rw [if_pos (by simp;omega),←hXl,List.drop_left];rfl
     have nt2:nthR (X++[.int .u16 z.1.1,.int .u32 z.1.2,.int .i64 (z.2:Nat)]) (A.length * 3+2)=.ok (.int .i64 (z.2:Nat)):=nthR_get (by rw [←hXl,List.getElem?_append_right (by omega)];simp)
     have w3:IntKind.i64.wrap ((z.2:Int)+1)=((z.2+1:Nat):Int):=by rw [w64 (by omega) (by omega)];omega
     have ov:∀d,overR (X++[.int .u16 z.1.1,.int .u32 z.1.2,.int .i64 (z.2:Nat)]) (A.length * 3+2) [d]=.ok (X++[.int .u16 z.1.1,.int .u32 z.1.2,d]):=fun d=>by rw [←hXl];exact over_last
     have e1:=eqID (ro:=ro) h' z.1.1 (z.1.2+z.2) a.1 a.2
     have pe:(z.1.1=a.1∧z.1.2+z.2=a.2)↔plusI z.1 z.2=a:=⟨fun e=>Prod.ext e.1 e.2,fun e=>by rw [←e];exact⟨rfl,rfl⟩⟩
     rw [decide_eq_decide.2 pe]at e1
     obtain⟨zz,hzz⟩:∃zz,zz=z.1.2+z.2:=⟨_,rfl⟩
     rw [←hzz]at e1
     have noinc:¬(plusI z.1 z.2=a∧z.2 < 1024)→ofStep (A++[z]) a=A++[z]++[(a,1)]:=fun c=>by rw [ofStep_app,if_neg c]
     simp -implicitDefEqProofs [hp,w2,wA,ixA,g3,tk0,nt2,same_self]
     refine idPlus_ev (r:=z.1.1) (n:=z.1.2) (k:=z.2) (by omega) ?_
     rw [←hzz]
     by_cases c1:plusI z.1 z.2=a
     · rw [decide_eq_true c1]at e1
       by_cases c2:(z.2:Int) < 1024
       · obtain⟨H,hH⟩:∃H,H=h'.set q (.row 3 fz (X++[.int .u16 z.1.1,.int .u32 z.1.2,.int .i64 ((z.2:Int)+1)])):=⟨_,rfl⟩
         simp -implicitDefEqProofs [idA,eqLID,e1,hp,w2,wA,ixA,g3,tk0,nt2,c2,w3,ov,same_self,w1]
         rw [←hH]
         have hg:ofStep (A++[z]) a=A++[(z.1,z.2+1)]:=by rw [ofStep_app,if_pos ⟨c1,by omega⟩]
         refine .mk (m:=m - 1) (by omega) (by
          rw [hI]
          refine⟨by rw [hH];exact oo.set g1 _,i+1,.sl q 0 (A.length+1),by omega,⟨fun e he=>by obtain⟨y,_,rfl⟩:=List.mem_map.1 he;rfl,.inr ⟨q,fz,by rw [htk,hg];simp,g1,by rw [hH];exact g2,?_⟩⟩,rfl⟩
          rw [hH,get_set_self,htk,hg,hXd]
          simp [snc])
       · obtain⟨w2',h2,k1,k2⟩:=more (noinc (fun c=>c2 (by omega)))
         simp -implicitDefEqProofs [idA,eqLID,e1,hp,w2,wA,ixA,g3,tk0,nt2,c2,same_self,buildSliceR,reps,k1,w1]
         exact k2
     · rw [decide_eq_false c1]at e1
       obtain⟨w2',h2,k1,k2⟩:=more (noinc (fun c=>c1 c.1))
       simp -implicitDefEqProofs [idA,eqLID,e1,hp,w2,wA,ixA,g3,tk0,nt2,same_self,buildSliceR,reps,k1,w1]
       exact k2
 · rw [List.take_of_length_le (by omega)]at hm
   simp -implicitDefEqProofs [hlt]
   exact hq w h' oo hm
end
end Go.Proofs.YtlhlbamcgopiiaaGreatDoor
set_option linter.all false
set_option maxRecDepth 100000
set_option maxHeartbeats 4000000
namespace Go.Proofs.YtlhlbamcgopiiaaGreatDoor
open Go Go.RowKit Go.Proofs
section
variable {ro:Nat→Option (List AVal)}
theorem plain8_ev {h:AHeap} {s:Str} (hl:s.length < 2 ^ 60) {Q:AVal→AHeap→Prop} (hq:Q (.bool (plain s)) h):Ev (cfgR ro) 95 [.str s] h Q:=by
 refine Ev.wp rfl rfl Tryz.func95 rfl ?_
 simp -implicitDefEqProofs [Tryz.f95]
 obtain⟨I,hI⟩:∃I:Nat→List AVal→AHeap→Prop,I=fun m env h'=>h'=h∧∃i,m=s.length - i∧i≤s.length∧plain s=plain (s.drop i)∧env=(.str s :: .dead :: .dead :: .int .i64 (i:Nat) :: .dead :: .dead :: .dead :: .dead :: .dead :: .dead :: .dead :: .dead :: .dead :: .dead :: .dead :: .dead :: .dead :: .dead :: .dead :: .dead :: .dead :: .dead :: .dead :: .dead :: .dead :: .dead :: []):=⟨_,rfl⟩
 refine loop_of I ?_ s.length (by rw [hI];exact⟨rfl,0,by simp,Nat.zero_le _,rfl,rfl⟩)
 intro m env h' hi
 rw [hI]at hi
 obtain⟨rfl,i,rfl,g1,g2,rfl⟩:=hi
 by_cases hlt:i < s.length
 · obtain⟨b,hb⟩:∃b,b=s[i]:=⟨_,rfl⟩
   have hx:idxNat (.int .i64 (i:Int)) s.length=.ok i:=ix_nat hlt
   have hn:s[i]'hlt=b:=hb.symm
   have hw:IntKind.i64.wrap ((i:Int)+1)=((i+1:Nat):Int):=by rw [w64 (by omega) (by omega)];omega
   have hs:=plain_step s i hlt
   rw [←hb]at hs
   obtain⟨n,hnn⟩:∃n,n=b.toNat:=⟨_,rfl⟩
   unfold plainB at hs
   rw [←hnn]at hs
   obtain⟨i1,hi1⟩:∃i1,i1=i+1:=⟨_,rfl⟩
   rw [←hi1]at hw hs
   have no:¬(n=10∨(32≤n∧n≤126))→Q (.bool false) h':=fun hh=>by
    rw [g2,hs,decide_eq_false hh,Bool.false_and]at hq;exact hq
   have yes:(n=10∨(32≤n∧n≤126))→plain s=plain (s.drop i1):=fun hh=>by rw [g2,hs,decide_eq_true hh,Bool.true_and]
   have go:plain s=plain (s.drop i1)→I (s.length - i1) ((.str s :: .dead :: .dead :: .int .i64 (i1:Nat) :: .dead :: .dead :: .dead :: .dead :: .dead :: .dead :: .dead :: .dead :: .dead :: .dead :: .dead :: .dead :: .dead :: .dead :: .dead :: .dead :: .dead :: .dead :: .dead :: .dead :: .dead :: .dead :: [])) h':=fun hh=>by rw [hI];exact⟨rfl,i1,rfl,by omega,hh,rfl⟩
   by_cases c1:n=10
   · simp -implicitDefEqProofs [hlt,hx,hn,hw,←hnn,c1]
     exact .mk (m:=s.length - i1) (by omega) (go (yes (.inl c1)))
   · have e1:¬((n:Int)=10):=by omega
     by_cases c2:n < 32
     · have d2:decide ((n:Int) < 32)=true:=decide_eq_true (by omega)
       simp -implicitDefEqProofs [hlt,hx,hn,hw,←hnn,c1,e1,c2,d2]
       exact no (by omega)
     · have d2:decide ((n:Int) < 32)=false:=decide_eq_false (by omega)
       by_cases c3:126 < n
       · have d3:decide ((126:Int) < (n:Int))=true:=decide_eq_true (by omega)
         simp -implicitDefEqProofs [hlt,hx,hn,hw,←hnn,c1,e1,c2,d2,c3,d3]
         exact no (by omega)
       · have d3:decide ((126:Int) < (n:Int))=false:=decide_eq_false (by omega)
         simp -implicitDefEqProofs [hlt,hx,hn,hw,←hnn,c1,e1,c2,d2,c3,d3]
         exact .mk (m:=s.length - i1) (by omega) (go (yes (by omega)))
 · have e:s.drop i=[]:=List.drop_eq_nil_of_le (by omega)
   rw [g2,e]at hq
   simp -implicitDefEqProofs [hlt]
   exact hq
end
structure Ed where
 kind:Int
 at_:Int
 to_:Int
 dest:Int
 text:List UInt8
def Ed.cells (e:Ed):List AVal:=[.int .i64 e.kind,.int .i64 e.at_,.int .i64 e.to_,.int .i64 e.dest,.str e.text]
def chk (e:Ed) (len:Int):Int×Int×Int:=
 if e.kind=1 then
  if e.to_≠0∨e.dest≠0 then(0,0,11)else
  if e.at_ < 0∨len < e.at_ then(0,0,10)else
  if e.text.length < 1∨plain e.text=false then(0,0,11)else
  if 64 < e.text.length then(0,0,15)else(len+e.text.length,e.text.length,0)
 else if e.kind=2∨e.kind=3 then
  if e.text≠[]∨(e.kind=2∧e.dest≠0)then(0,0,11)else
  if e.at_ < 0∨e.to_≤e.at_∨len < e.to_ then(0,0,10)else
  if 1024 < e.to_ - e.at_ then(0,0,15)else
  if e.kind=2 then(len - (e.to_ - e.at_),0,0)else
  if e.dest < 0∨len < e.dest then(0,0,10)else
  if e.at_≤e.dest∧e.dest≤e.to_ then(0,0,41)else(len,e.to_ - e.at_,0)
 else(0,0,11)
section
variable {ro:Nat→Option (List AVal)}
theorem chk8 (e:Ed) {len:Int} (hl:0≤len∧len≤2 ^ 41) (ht:e.text.length≤300) (h:AHeap) {Q:AVal→AHeap→Prop}
 (hq:∀a b c,chk e len=(a,b,c)→Q (.tuple [.int .i64 a,.int .i64 b,.int .i64 c]) h):Ev (cfgR ro) 45 [.agg e.cells,.int .i64 len] h Q:=by
 obtain⟨kind,at_,to_,dest,text⟩:=e
 simp only [Ed.cells]at *
 refine Ev.wp rfl rfl Tryz.func45 rfl ?_
 simp [Tryz.f45]
 repeat' (first | (rw [w64 (by omega) (by omega)]) | (refine orD (fun _=>?_) (fun _=>?_) <;> simp [*]) | (refine plain8_ev (by omega) ?_ <;> simp [*] <;> refine orB (fun _=>?_) (fun _=>?_) <;> simp [*]))
 all_goals (refine hq _ _ _ ?_)
 all_goals (first | (simp [chk, *];done) | (simp [chk, *];omega) | ((unfold chk;simp only [];repeat' split) <;> first | rfl | (exfalso;omega) | (simp_all;done) | (simp_all;omega)))
 all_goals trace_state
end
def can (e:Ed) (n:Nat):Prop:=
 (∃a:Nat,e.kind=1∧e.at_=a∧a≤n∧e.to_=0∧e.dest=0∧e.text.length≤64)∨
 (∃a t:Nat,e.kind=2∧e.at_=a∧e.to_=t∧e.dest=0∧a < t∧t≤n∧e.text=[])∨
 (∃a t d:Nat,e.kind=3∧e.at_=a∧e.to_=t∧e.dest=d∧a < t∧t≤n∧d≤n∧(d < a∨t < d)∧e.text=[])
theorem can_of {e:Ed} {n:Nat} {a b:Int} (h:chk e n=(a,b,0)):can e n:=by
 unfold chk at h
 by_cases h1:e.kind=1
 · rw [if_pos h1]at h
   left
   repeat' (split at h)
   all_goals (first | (simp at h;done) | skip)
   refine⟨e.at_.toNat,h1,by omega,by omega,by omega,by omega,by omega⟩
 · rw [if_neg h1]at h
   right
   by_cases h2:e.kind=2
   · left
     repeat' (split at h)
     all_goals (first | (simp at h;done) | skip)
     all_goals (first | (exfalso;omega) | skip)
     exact⟨e.at_.toNat,e.to_.toNat,h2,by omega,by omega,by simp_all,by omega,by omega,by simp_all⟩
   · right
     repeat' (split at h)
     all_goals (first | (simp at h;done) | skip)
     exact⟨e.at_.toNat,e.to_.toNat,e.dest.toNat,by omega,by omega,by omega,by omega,by omega,by omega,by omega,by omega,by simp_all⟩
def doS (s:List UInt8) (e:Ed):List UInt8:=
 let a:=e.at_.toNat
 let t:=e.to_.toNat
 let d:=e.dest.toNat
 if e.kind=1 then s.take a++e.text++s.drop a else
 if e.kind=2 then s.take a++s.drop t else
 if d < a then s.take d++(s.take t).drop a++(s.take a).drop d++s.drop t else
 s.take a++(s.take d).drop t++(s.take t).drop a++s.drop d
def one (s:List UInt8) (i:Nat):List UInt8:=(s.take (i+1)).drop i
def outA (s m:List UInt8) (a t:Nat) (d:Int):Nat→List UInt8
 | 0=>[]
 | i+1=>(outA s m a t d i++if(i:Int)=d then m else [])++if i < s.length∧(i < a∨t≤i)then one s i else []
def keep (s:List UInt8) (a t:Nat):Nat→List UInt8
 | 0=>[]
 | i+1=>keep s a t i++if i < a∨t≤i then one s i else []
theorem one_len (s:List UInt8) (i:Nat):(one s i).length≤1:=by unfold one;simp;omega
theorem take_one {s:List UInt8} {i:Nat} (h:i < s.length):s.take i++one s i=s.take (i+1):=by
 unfold one
 have:(s.take (i+1)).drop i=[s[i]]:=by
  rw [List.take_succ_eq_append_getElem h,List.drop_append,List.length_take,Nat.min_eq_left (by omega)]
  simp
 rw [this,List.take_succ_eq_append_getElem h]
theorem drop_one {s:List UInt8} {i j:Nat} (hj:j≤i) (h:i < s.length):(s.take i).drop j++one s i=(s.take (i+1)).drop j:=by
 rw [←take_one h,List.drop_append,List.length_take]
 have:j - min i s.length=0:=by omega
 rw [this,List.drop_zero]
theorem keep_low {s:List UInt8} {a t:Nat}:∀{i:Nat},i≤a→i≤s.length→keep s a t i=s.take i
 | 0,_,_=>by simp [keep]
 | i+1,h,hl=>by
  rw [keep,keep_low (i:=i) (by omega) (by omega),if_pos (by omega),take_one (by omega)]
theorem keep_mid {s:List UInt8} {a t:Nat}:∀{i:Nat},a≤i→i≤t→i≤s.length→keep s a t i=s.take a
 | 0,h,_,_=>by simp [keep];omega
 | i+1,h,h1,hl=>by
  by_cases hi:i+1=a
  · rw [keep_low (by omega) hl,hi]
  · rw [keep,keep_mid (i:=i) (by omega) (by omega) (by omega),if_neg (by omega),List.append_nil]
theorem keep_high {s:List UInt8} {a t:Nat} (ha:a≤t):∀{i:Nat},t≤i→i≤s.length→keep s a t i=s.take a++(s.take i).drop t
 | 0,h,_=>by
  have h1:t=0:=by omega
  have h2:a=0:=by omega
  subst h1 h2;simp [keep]
 | i+1,h,hl=>by
  by_cases hi:i+1=t
  · rw [keep_mid (by omega) (by omega) hl,hi]
    have:(s.take t).drop t=[]:=by simp
    rw [this,List.append_nil]
  · rw [keep,keep_high ha (i:=i) (by omega) (by omega),if_pos (by omega),List.append_assoc,drop_one (by omega) (by omega)]
theorem out_low {s m:List UInt8} {a t:Nat} {d:Int}:∀{i:Nat},(i:Int)≤d→i≤s.length→outA s m a t d i=keep s a t i
 | 0,_,_=>rfl
 | i+1,h,hl=>by
  rw [outA,keep,out_low (i:=i) (by omega) (by omega),if_neg (by omega),List.append_nil]
  by_cases hx:i < a∨t≤i
  · rw [if_pos ⟨by omega,hx⟩,if_pos hx]
  · rw [if_neg (by omega),if_neg hx]
theorem out_neg {s m:List UInt8} {a t:Nat} {d:Int} (hd:d < 0):∀{i:Nat},i≤s.length→outA s m a t d i=keep s a t i
 | 0,_=>rfl
 | i+1,hl=>by
  rw [outA,keep,out_neg hd (i:=i) (by omega),if_neg (by omega),List.append_nil]
  by_cases hx:i < a∨t≤i
  · rw [if_pos ⟨by omega,hx⟩,if_pos hx]
  · rw [if_neg (by omega),if_neg hx]
theorem out_high {s m:List UInt8} {a t d:Nat}:∀{i:Nat},d < i→i≤s.length→∃T,keep s a t i=keep s a t d++T∧outA s m a t d i=keep s a t d++m++T
 | i+1,h,hl=>by
  have hx:(if i < s.length∧(i < a∨t≤i)then one s i else [])=if i < a∨t≤i then one s i else []:=by
   by_cases hx:i < a∨t≤i
   · rw [if_pos ⟨by omega,hx⟩,if_pos hx]
   · rw [if_neg (by omega),if_neg hx]
  by_cases hi:i=d
  · subst hi
    refine⟨if i < a∨t≤i then one s i else [],rfl,?_⟩
    rw [outA,if_pos rfl,out_low (by omega) (by omega),hx]
  · obtain⟨T,h1,h2⟩:=out_high (s:=s) (m:=m) (a:=a) (t:=t) (d:=d) (i:=i) (by omega) (by omega)
    refine⟨T++if i < a∨t≤i then one s i else [],?_,?_⟩
    · rw [keep,h1,List.append_assoc]
    · rw [outA,if_neg (by omega),List.append_nil,h2,hx,List.append_assoc]
theorem out_len {s m:List UInt8} {a t:Nat} {d:Int}:∀i:Nat,(outA s m a t d i).length≤i+(if d < (i:Int)then m.length else 0)
 | 0=>by simp [outA]
 | i+1=>by
  have:=out_len (s:=s) (m:=m) (a:=a) (t:=t) (d:=d) i
  have h1:=one_len s i
  have h2:(if i < s.length∧(i < a∨t≤i)then one s i else []).length≤1:=by split <;> simp_all
  rw [outA,List.length_append,List.length_append]
  generalize (if i < s.length∧(i < a∨t≤i)then one s i else []).length=w at h2
  by_cases hd:(i:Int)=d
  · have e1:(if d < ((i+1:Nat):Int)then m.length else 0)=m.length:=if_pos (by omega)
    have e2:(if d < (i:Int)then m.length else 0)=0:=if_neg (by omega)
    have e3:(if(i:Int)=d then m else [])=m:=if_pos hd
    rw [e1,e3];rw [e2]at this;omega
  · have e3:(if(i:Int)=d then m else [])=[]:=if_neg hd
    rw [e3]
    by_cases hd2:d < (i:Int)
    · have e1:(if d < ((i+1:Nat):Int)then m.length else 0)=m.length:=if_pos (by omega)
      have e2:(if d < (i:Int)then m.length else 0)=m.length:=if_pos hd2
      rw [e1];rw [e2]at this;simp;omega
    · have e1:(if d < ((i+1:Nat):Int)then m.length else 0)=0:=if_neg (by omega)
      have e2:(if d < (i:Int)then m.length else 0)=0:=if_neg hd2
      rw [e1];rw [e2]at this;simp;omega
theorem out_end {s m:List UInt8} {a t:Nat} {d:Int}:outA s m a t d (s.length+1)=outA s m a t d s.length++if(s.length:Int)=d then m else []:=by
 rw [outA,if_neg (by simp:¬(s.length < s.length∧_)),List.append_nil]
theorem out_all {s m:List UInt8} {a t d:Nat} (hd:d≤s.length):∃T,keep s a t s.length=keep s a t d++T∧outA s m a t d (s.length+1)=keep s a t d++m++T:=by
 rw [out_end]
 by_cases h:d=s.length
 · subst h
   exact⟨[],by simp,by rw [if_pos rfl,out_low (by omega) (by omega)];simp⟩
 · obtain⟨T,h1,h2⟩:=out_high (s:=s) (m:=m) (a:=a) (t:=t) (d:=d) (i:=s.length) (by omega) (by omega)
   exact⟨T,h1,by rw [if_neg (by omega),List.append_nil,h2]⟩
theorem out_do {s m:List UInt8} {a t:Nat} {d:Int} {e:Ed} (h:(e.kind=1∧e.at_=a∧a≤s.length∧t=a∧d=a∧m=e.text)∨(e.kind=2∧e.at_=a∧e.to_=t∧a < t∧t≤s.length∧d=-1)∨
 (e.kind=3∧e.at_=a∧e.to_=t∧e.dest=d∧a < t∧t≤s.length∧0≤d∧d≤s.length∧(d < a∨t < d)∧m=(s.take t).drop a)):outA s m a t d (s.length+1)=doS s e:=by
 unfold doS
 rcases h with ⟨h1,h2,h3,ht,hd,hm⟩ | ⟨h1,h2,h3,h4,h5,rfl⟩ | ⟨h1,h2,h3,h4,h5,h6,h7,h8,h9,rfl⟩
 · subst hm hd
   rw [ht]
   clear ht
   simp only [h1,h2,if_true,Int.toNat_natCast]
   obtain⟨T,k1,k2⟩:=out_all (s:=s) (m:=e.text) (a:=a) (t:=a) (d:=a) h3
   rw [k2,keep_low (Nat.le_refl _) h3]
   rw [keep_high (Nat.le_refl _) h3 (Nat.le_refl _),keep_low (Nat.le_refl _) h3,List.take_length]at k1
   rw [List.append_cancel_left k1]
 · simp only [h1,h2,h3,Int.toNat_natCast]
   rw [if_neg (by decide),if_pos (by trivial),out_end,if_neg (by omega),List.append_nil,out_neg (by omega) (Nat.le_refl _),keep_high (by omega) h5 (Nat.le_refl _),List.take_length]
 · obtain⟨d,rfl⟩:=Int.eq_ofNat_of_zero_le h7
   simp only [h1,h2,h3,h4,Int.toNat_natCast]
   rw [if_neg (by decide),if_neg (by decide)]
   obtain⟨T,k1,k2⟩:=out_all (s:=s) (m:=(s.take t).drop a) (a:=a) (t:=t) (d:=d) (by omega)
   rw [k2]
   rw [keep_high (by omega) h6 (Nat.le_refl _),List.take_length]at k1
   rcases h9 with h9 | h9
   · rw [if_pos (by omega)]
     rw [keep_low (by omega) (by omega)]at k1 ⊢
     have:s.take a=s.take d++(s.take a).drop d:=by
      have:=List.take_append_drop d (s.take a)
      rw [List.take_take,Nat.min_eq_left (by omega)]at this
      exact this.symm
     rw [this,List.append_assoc]at k1
     rw [←List.append_cancel_left k1]
     simp [List.append_assoc]
   · rw [if_neg (by omega)]
     rw [keep_high (by omega) (by omega) (by omega)]at k1 ⊢
     have:s.drop t=(s.take d).drop t++s.drop d:=by
      have:=congrArg (List.drop t) (List.take_append_drop d s)
      rw [List.drop_append,List.length_take,Nat.min_eq_left (by omega)]at this
      rw [←this,show t - d=0 by omega,List.drop_zero]
     rw [this,←List.append_assoc]at k1
     rw [←List.append_cancel_left k1]
section
variable {ro:Nat→Option (List AVal)}
theorem do9 (e:Ed) {s:List UInt8} (hs:s.length≤2 ^ 40) (hc:can e s.length) (h:AHeap) {Q:AVal→AHeap→Prop}
 (hq:Q (.str (doS s e)) h):Ev (cfgR ro) 18 [.str s,.agg e.cells] h Q:=by
 refine Ev.wp rfl rfl Tryz.func18 rfl ?_
 have body:∀(k:Int) (a t:Nat) (d:Int) (m x:List UInt8) (hm:m.length≤2 ^ 40) (ho:outA s m a t d (s.length+1)=doS s e),
  wp (cfgR ro) 18 (.seq (.block 0 (match Tryz.f18.body with | some (.seq _ (.seq _ (.seq _ (.seq _ (.seq (.seq _ (.block _ b)) _)))))=>b | _=>.skip)) (match Tryz.f18.body with | some (.seq _ (.seq _ (.seq _ (.seq _ (.seq _ b)))))=>b | _=>.skip))
  (retK (cfgR ro) 18 Tryz.f18.results.toList Q) noE (retK (cfgR ro) 18 Tryz.f18.results.toList Q) noE
  (.str s :: .dead :: .dead :: .cell [.int .i64 k,.int .i64 a,.int .i64 t,.int .i64 d,.str x] :: .dead :: .str m :: .str [] :: .int .i64 0 :: .dead :: .dead :: .dead :: .dead :: .dead :: .dead :: .dead :: .dead :: .dead :: .dead :: .dead :: .dead :: .dead :: .dead :: .dead :: .dead :: .dead :: .dead :: .dead :: .dead :: .dead :: .dead :: .dead :: .dead :: .dead :: .dead :: .dead :: .dead :: .dead :: .dead :: .dead :: .dead :: .dead :: .dead :: .dead :: .dead :: .dead :: .dead :: .dead :: .dead :: .dead :: .dead :: .dead :: .dead :: .dead :: .dead :: .dead :: .dead :: .dead :: .dead :: .dead :: .dead :: .dead :: .dead :: .dead :: .dead :: .dead :: .dead :: []) h:=by
  intro k a t d m x hm ho
  simp [Tryz.f18]
  obtain⟨I,hI⟩:∃I:Nat→List AVal→AHeap→Prop,I=fun n env h'=>∃i:Nat,i+n=s.length+1∧h'=h∧env=(.str s :: .dead :: .dead :: .cell [.int .i64 k,.int .i64 a,.int .i64 t,.int .i64 d,.str x] :: .dead :: .str m :: .str (outA s m a t d i) :: .int .i64 i :: .dead :: .dead :: .dead :: .dead :: .dead :: .dead :: .dead :: .dead :: .dead :: .dead :: .dead :: .dead :: .dead :: .dead :: .dead :: .dead :: .dead :: .dead :: .dead :: .dead :: .dead :: .dead :: .dead :: .dead :: .dead :: .dead :: .dead :: .dead :: .dead :: .dead :: .dead :: .dead :: .dead :: .dead :: .dead :: .dead :: .dead :: .dead :: .dead :: .dead :: .dead :: .dead :: .dead :: .dead :: .dead :: .dead :: .dead :: .dead :: .dead :: .dead :: .dead :: .dead :: .dead :: .dead :: .dead :: .dead :: .dead :: .dead :: []):=⟨_,rfl⟩
  refine loop_of I ?_ (s.length+1) (by rw [hI];exact⟨0,by simp,rfl,rfl⟩)
  rintro n env h' hi
  have hi':=hi
  rw [hI]at hi'
  obtain⟨i,hin,rfl,rfl⟩:=hi'
  have hlen:=out_len (s:=s) (m:=m) (a:=a) (t:=t) (d:=d) i
  have hw:IntKind.i64.wrap ((i:Int)+1)=(i:Int)+1:=w64 (by omega) (by omega)
  have hstep:∀o o2,o=outA s m a t d i++(if(i:Int)=d then m else [])→o2=o++(if i < s.length∧(i < a∨t≤i)then one s i else [])→i≤s.length→I (n - 1) (.str s :: .dead :: .dead :: .cell [.int .i64 k,.int .i64 a,.int .i64 t,.int .i64 d,.str x] :: .dead :: .str m :: .str o2 :: .int .i64 ((i:Int)+1) :: .dead :: .dead :: .dead :: .dead :: .dead :: .dead :: .dead :: .dead :: .dead :: .dead :: .dead :: .dead :: .dead :: .dead :: .dead :: .dead :: .dead :: .dead :: .dead :: .dead :: .dead :: .dead :: .dead :: .dead :: .dead :: .dead :: .dead :: .dead :: .dead :: .dead :: .dead :: .dead :: .dead :: .dead :: .dead :: .dead :: .dead :: .dead :: .dead :: .dead :: .dead :: .dead :: .dead :: .dead :: .dead :: .dead :: .dead :: .dead :: .dead :: .dead :: .dead :: .dead :: .dead :: .dead :: .dead :: .dead :: .dead :: .dead :: []) h':=by
   intro o o2 h1 h2 hle
   rw [hI]
   exact⟨i+1,by omega,rfl,by rw [h2,h1];rfl⟩
  have hd0:(if d < (i:Int)then m.length else 0)≤m.length:=by split <;> omega
  have hb1:i < s.length→boundR (.int .i64 ((i:Int)+1)) s.length=.ok (i+1):=fun h=>bd_nat (i:=i+1) (by omega)
  have hb2:boundR (.int .i64 (i:Int)) (i+1)=.ok i:=bd_nat (by omega)
  simp
  refine orD (fun hle=>?_) (fun hle=>?_)
  · simp
    refine orD (fun h1=>?_) (fun h1=>?_)
    · subst h1
      have hlen:(outA s m a t i i).length≤i:=by have:=out_len (s:=s) (m:=m) (a:=a) (t:=t) (d:=i) i;rw [if_neg (by omega)]at this;omega
      simp
      refine⟨by omega,?_⟩
      refine orD (fun h2=>?_) (fun h2=>?_)
      · have hb1:=hb1 h2
        simp [h2]
        refine orD (fun h3=>?_) (fun h3=>?_)
        · simp [h3,h2,hw,bounds2,hb1,hb2]
          exact⟨by omega,.mk (by omega) (hstep _ _ rfl (by rw [if_pos rfl,if_pos ⟨h2,.inl (by omega)⟩];simp [one]) hle)⟩
        · simp [h3,h2]
          refine orD (fun h4=>?_) (fun h4=>?_)
          · simp [h4,h3,h2,hw,bounds2,hb1,hb2]
            exact⟨by omega,.mk (by omega) (hstep _ _ rfl (by rw [if_pos rfl,if_pos ⟨h2,.inr (by omega)⟩];simp [one]) hle)⟩
          · simp [h4,h3,h2,hw]
            exact .mk (by omega) (hstep _ _ rfl (by rw [if_pos rfl,if_neg (by omega)];simp) hle)
      · simp [h2,hw]
        exact .mk (by omega) (hstep _ _ rfl (by rw [if_pos rfl,if_neg (by omega)];simp) hle)
    · have hne:(if(i:Int)=d then m else [])=[]:=if_neg h1
      simp [h1]
      refine orD (fun h2=>?_) (fun h2=>?_)
      · have hb1:=hb1 h2
        simp [h2]
        refine orD (fun h3=>?_) (fun h3=>?_)
        · simp [h3,h2,hw,bounds2,hb1,hb2]
          exact⟨by omega,.mk (by omega) (hstep _ _ rfl (by rw [hne,if_pos ⟨h2,.inl (by omega)⟩];simp [one]) hle)⟩
        · simp [h3,h2]
          refine orD (fun h4=>?_) (fun h4=>?_)
          · simp [h4,h3,h2,hw,bounds2,hb1,hb2]
            exact⟨by omega,.mk (by omega) (hstep _ _ rfl (by rw [hne,if_pos ⟨h2,.inr (by omega)⟩];simp [one]) hle)⟩
          · simp [h4,h3,h2,hw]
            exact .mk (by omega) (hstep _ _ rfl (by rw [hne,if_neg (by omega)];simp) hle)
      · simp [h2,hw]
        exact .mk (by omega) (hstep _ _ rfl (by rw [hne,if_neg (by omega)];simp) hle)
  · simp
    have:i=s.length+1:=by omega
    rw [this,ho];exact hq
 obtain⟨kind,at_,to_,dest,text⟩:=e
 simp only [can]at hc
 simp only [Ed.cells]
 rcases hc with ⟨a,rfl,rfl,h1,rfl,rfl,h2⟩ | ⟨a,t,rfl,rfl,rfl,rfl,h1,h2,rfl⟩ | ⟨a,t,d,rfl,rfl,rfl,rfl,h1,h2,h3,h4,rfl⟩
 · have:=body 1 a a a text text (by omega) (out_do (.inl ⟨rfl,rfl,h1,rfl,rfl,rfl⟩))
   simp [Tryz.f18]at this ⊢
   exact this
 · have:=body 2 a t (-1) [] [] (by simp) (out_do (.inr (.inl ⟨rfl,rfl,rfl,h1,h2,rfl⟩)))
   simp [Tryz.f18]at this ⊢
   exact this
 · have:=body 3 a t d ((s.take t).drop a) [] (by simp;omega) (out_do (.inr (.inr ⟨rfl,rfl,rfl,rfl,h1,h2,by omega,by omega,by omega,rfl⟩)))
   simp [Tryz.f18,bounds2,bd_nat h2,bd_nat (show a≤t by omega)]at this ⊢
   exact this
end
def allGo:List Ed→Int→Int→Nat→Int×Int×Int
 | [],_,atoms,_=>(atoms,0,0)
 | e :: l,len,atoms,i=>if(chk e len).2.2≠0 then(0,i,(chk e len).2.2)else allGo l (chk e len).1 (atoms+(chk e len).2.1) (i+1)
def allS (l:List Ed) (len:Int):Int×Int×Int:=if l.length=0 then(0,0,11)else if 16 < l.length then(0,0,13)else allGo l len 0 0
section
variable {ro:Nat→Option (List AVal)}
def Eds (c:Cfg) (h:AHeap) (v:AVal) (l:List Ed):Prop:=Sl c h 5 v (l.map Ed.cells)
theorem Eds.at {l:List Ed} {i:Nat} (hi:i < l.length):(l.map Ed.cells)[i]?=some l[i].cells:=by simp [hi]
end
def smallB (l:List Ed):Bool:=l.all (fun e=>decide (e.text.length≤300)) && decide (l.length≤40)
theorem smallB_iff {l:List Ed}:smallB l=true↔(∀e∈l,e.text.length≤300)∧l.length≤40:=by
 unfold smallB;simp
section
variable {ro:Nat→Option (List AVal)}
theorem run5 (h:AHeap):Run (cfgR ro) 10 [] h (.bool true) h:=⟨60,by kernel_rfl⟩
theorem small6 {v:AVal} {l:List Ed} {h:AHeap} (hv:Eds (cfgR ro) h v l) (hn:l.length < 2 ^ 63) {Q:AVal→AHeap→Prop}
 (hq:Q (.bool (smallB l)) h):Ev (cfgR ro) 11 [v] h Q:=by
 refine Ev.wp rfl rfl Tryz.func11 rfl ?_
 have hL:lenR (cfgR ro) h 22 v=.ok (.int .i64 l.length):=by have:=hv.lenR (t:=22) un22;simpa using this
 have hX:∀i,i < l.length→indexAddrR Tryz.prog 22 v (.int .i64 (i:Int))=.ok (elp v 5 i):=fun i hi=>hv.idx un22 sz53 (by simpa using hi)
 have hA:∀i (hi:i < l.length),loadR (cfgR ro) h 53 (elp v 5 i)=.ok (.agg l[i].cells):=fun i hi=>hv.load (Eds.at hi) ag53 sz53
 simp [Tryz.f11,hL]
 obtain⟨I,hI⟩:∃I:Nat→List AVal→AHeap→Prop,I=fun m env h'=>∃(i:Nat),i+m=l.length∧h'=h∧(∀j (hj:j < i) (hl:j < l.length),l[j].text.length≤300)∧env=(v :: .dead :: .dead :: .dead :: .dead :: v :: .int .i64 l.length :: .int .i64 i :: .dead :: .dead :: .dead :: .dead :: .dead :: .dead :: .dead :: .dead :: .dead :: .dead :: .dead :: []):=⟨_,rfl⟩
 refine loop_of I ?_ l.length (by rw [hI];exact⟨0,by simp,rfl,by simp,rfl⟩)
 rintro m env h' hi
 have hi':=hi
 rw [hI]at hi'
 obtain⟨i,hin,rfl,hs,rfl⟩:=hi'
 simp
 refine orD (fun h3=>?_) (fun h3=>?_)
 · simp [hX i h3,hA i h3,Ed.cells]
   refine orD (fun h4=>?_) (fun h4=>?_)
   · simp
     have:smallB l=false:=by
      rw [←Bool.not_eq_true,smallB_iff]
      intro hh
      have:=hh.1 _ (List.getElem_mem h3)
      omega
     rw [this]at hq;exact hq
   · simp
     rw [w64 (n:=(i:Int)+1) (by omega) (by omega)]
     refine .mk (m:=m - 1) (by omega) (by
      rw [hI];refine⟨i+1,by omega,rfl,fun j hj hl=>?_,rfl⟩
      by_cases hji:j=i
      · subst hji;omega
      · exact hs j (by omega) hl)
 · simp [hL]
   have:smallB l=decide (l.length≤40):=by
    unfold smallB
    have:l.all (fun e=>decide (e.text.length≤300))=true:=by
     rw [List.all_eq_true]
     intro e he
     obtain⟨j,hj,rfl⟩:=List.getElem_of_mem he
     simpa using hs j (by omega) hj
    rw [this];simp
   rw [this]at hq
   have e2:decide ((l.length:Int)≤40)=decide (l.length≤40):=by simp;omega
   first | exact hq | (rw [e2];exact hq)
theorem refs7 {v:AVal} {l:List Ed} {h:AHeap} (hv:Eds (cfgR ro) h v l) (hn:l.length≤2 ^ 40) {Q:AVal→AHeap→Prop}
 (hq:∀v' h',Old h h'→Mine h h' 5 (l.map Ed.cells) v'→Q v' h'):Ev (cfgR ro) 13 [v] h Q:=by
 refine Ev.wp rfl rfl Tryz.func13 rfl ?_
 have hL:lenR (cfgR ro) h 22 v=.ok (.int .i64 l.length):=by have:=hv.lenR (t:=22) un22;simpa using this
 have hX:∀i,i < l.length→indexAddrR Tryz.prog 22 v (.int .i64 (i:Int))=.ok (elp v 5 i):=fun i hi=>hv.idx un22 sz53 (by simpa using hi)
 have hA:∀h',Old h h'→∀i (hi:i < l.length),loadR (cfgR ro) h' 53 (elp v 5 i)=.ok (.agg l[i].cells):=fun h' ho i hi=>(hv.old ho).load (Eds.at hi) ag53 sz53
 simp [Tryz.f13,hL]
 obtain⟨I,hI⟩:∃I:Nat→List AVal→AHeap→Prop,I=fun m env h'=>∃(i:Nat) (o:AVal),i+m=l.length∧Old h h'∧Mine h h' 5 ((l.take i).map Ed.cells) o∧env=(.dead :: .dead :: .dead :: o :: .dead :: .dead :: v :: .int .i64 l.length :: .int .i64 i :: .dead :: .dead :: .dead :: .dead :: .dead :: .dead :: .dead :: .dead :: .dead :: .dead :: .dead :: .dead :: .dead :: .dead :: .dead :: .dead :: .dead :: .dead :: .dead :: []):=⟨_,rfl⟩
 refine loop_of I ?_ l.length (by rw [hI];exact⟨0,.nils,by simp,Old.refl h,by simpa using Mine.nil h h 5,rfl⟩)
 rintro m env h' hi
 have hi':=hi
 rw [hI]at hi'
 obtain⟨i,o,hin,ho,hm,rfl⟩:=hi'
 simp
 refine orD (fun h3=>?_) (fun h3=>?_)
 · simp [hX i h3,hA h' ho i h3,Ed.cells,buildSliceR,reps]
   obtain⟨v',h2,e1,m2,o2⟩:=(hm.keep ((Old.refl h').push (.row 5 false l[i].cells))).append1 (bytes:=48) (e:=l[i].cells) (by omega) rfl (by simp;omega) (ho.push _)
   simp only [Ed.cells]at e1
   simp [e1]
   rw [w64 (n:=(i:Int)+1) (by omega) (by omega)]
   refine .mk (m:=m - 1) (by omega) (by rw [hI];exact⟨i+1,v',by omega,o2,by rw [List.take_succ_eq_append_getElem h3,List.map_append];exact m2,rfl⟩)
 · simp
   rw [List.take_of_length_le (by omega)]at hm
   exact hq _ _ ho hm
end
end Go.Proofs.YtlhlbamcgopiiaaGreatDoor
set_option linter.all false
set_option maxRecDepth 1000000
set_option maxHeartbeats 4000000
namespace Go.Proofs.YtlhlbamcgopiiaaGreatDoor
open Go Go.RowKit Go.Proofs Go.ChangeShapes Go.WideShapes Go.ChangeAt
theorem ed_of {ro n} {x:List AVal} (h:Rdg Tryz.prog ro n 53 x):∃e:Ed,x=e.cells:=by
 obtain⟨hl,m,hf⟩:=rdg_struct Tryz.underlying53 h
 rw [co53]at hl
 obtain⟨a,b,c,d,e,rfl⟩:∃a b c d e,x=[a,b,c,d,e]:=by
  match x,hl with
  | [a,b,c,d,e],_=>exact⟨a,b,c,d,e,rfl⟩
 obtain⟨i0,h0,_⟩:=rdg_int Tryz.underlying3 (hf 0 _ rfl)
 obtain⟨i1,h1,_⟩:=rdg_int Tryz.underlying3 (hf 1 _ rfl)
 obtain⟨i2,h2,_⟩:=rdg_int Tryz.underlying3 (hf 2 _ rfl)
 obtain⟨i3,h3,_⟩:=rdg_int Tryz.underlying3 (hf 3 _ rfl)
 obtain⟨i4,h4,_⟩:=rdg_str Tryz.underlying9 (hf 4 _ rfl)
 simp at h0 h1 h2 h3 h4
 exact⟨⟨i0,i1,i2,i3,i4⟩,by simp [Ed.cells,h0,h1,h2,h3,h4]⟩
theorem eds_of:∀{ess:List (List AVal)},(∀x∈ess,∃e:Ed,x=e.cells)→∃l:List Ed,ess=l.map Ed.cells
 | [],_=>⟨[],rfl⟩
 | x :: ess,h=>by
  obtain⟨e,rfl⟩:=h x (by simp)
  obtain⟨l,rfl⟩:=eds_of (ess:=ess) (fun y hy=>h y (by simp [hy]))
  exact⟨e :: l,rfl⟩
end Go.Proofs.YtlhlbamcgopiiaaGreatDoor
set_option linter.all false
set_option maxRecDepth 100000
set_option maxHeartbeats 4000000
namespace Go.Proofs.YtlhlbamcgopiiaaGreatDoor
open Go Go.RowKit Go.Proofs
def AtV.elem (a:AtV):IdT:=(a.er,a.en)
def spI (x:Sp):IdT:=x.1.2
theorem key_id (a:AtV):a.key.2=a.id:=rfl
def setI (A:List AtV) (x:IdT) (v:Bool):List AtV:=A.map fun a=>if a.id=x then { a with shown:=v } else a
theorem setI_id (A:List AtV) (x:IdT) (v:Bool):(setI A x v).map AtV.id=A.map AtV.id:=by
 unfold setI
 rw [List.map_map]
 refine List.map_congr_left fun a _=>?_
 simp only [Function.comp]
 split <;> rfl
theorem setI_none {x:IdT} {v:Bool}:∀{A:List AtV},(∀a∈A,a.id≠x)→setI A x v=A
 | [],_=>rfl
 | a :: A,h=>by
  unfold setI
  rw [List.map_cons,if_neg (h a (by simp))]
  congr 1
  exact setI_none (fun b hb=>h b (by simp [hb]))
theorem showA_eq {v:Bool} {r n:Nat}:∀{A:List AtV},(A.map AtV.id).Nodup→(showA A r n v).1=setI A (r,n) v:=by
 intro A hn
 unfold showA
 cases hi:atIx A r n with
 | none=>
  simp only
  refine(setI_none fun a ha e=>?_).symm
  unfold atIx at hi
  rw [List.findIdx?_eq_none_iff]at hi
  have:=hi a ha
  simp only [decide_eq_false_iff_not]at this
  unfold AtV.id at e
  simp only [Prod.mk.injEq]at e
  exact this e
 | some i=>
  simp only
  have key:∀(A:List AtV) (i:Nat),(A.map AtV.id).Nodup→atIx A r n=some i→setSh A i v=setI A (r,n) v:=by
   intro A
   induction A with
   | nil=>intro i _ h;cases h
   | cons a A ih=>
    intro i hn hi
    rw [List.map_cons,List.nodup_cons]at hn
    unfold atIx at hi
    rw [List.findIdx?_cons]at hi
    by_cases c:a.r=r∧a.n=n
    · rw [decide_eq_true c]at hi
      simp only [if_true]at hi
      have h0:i=0:=by injection hi with h;exact h.symm
      subst h0
      have hid:a.id=(r,n):=Prod.ext c.1 c.2
      have h2:=setI_none (A:=A) (x:=(r,n)) (v:=v) (fun b hb e=>hn.1 (List.mem_map.2 ⟨b,hb,e.trans hid.symm⟩))
      unfold setI at h2 ⊢
      rw [List.map_cons,if_pos hid,h2]
      rfl
    · rw [decide_eq_false c]at hi
      simp only [Bool.false_eq_true,if_false,Option.map_eq_some_iff]at hi
      obtain⟨j,hj,rfl⟩:=hi
      have hid:a.id≠(r,n):=fun e=>c (by unfold AtV.id at e;simpa using e)
      have h2:=ih j hn.2 hj
      unfold setI at h2 ⊢
      rw [List.map_cons,if_neg hid,←h2]
      rfl
  exact key A i hn hi
def flagS (yes:Sp→Bool) (sp:List Sp) (a:AtV):AtV:={ a with shown:=sp.foldl (fun f x=>if a.id=spI x then yes x else f) a.shown }
theorem flagS_cons (yes:Sp→Bool) (x:Sp) (sp:List Sp) (a:AtV):flagS yes (x :: sp) a=flagS yes sp (if a.id=spI x then { a with shown:=yes x } else a):=by
 by_cases c:a.id=spI x
 · rw [if_pos c]
   unfold flagS
   rw [List.foldl_cons,if_pos c];rfl
 · rw [if_neg c]
   unfold flagS
   rw [List.foldl_cons,if_neg c]
theorem showAll_eq (yes:Sp→Bool):∀(sp:List Sp) (A:List AtV),(A.map AtV.id).Nodup→showAll yes sp A=A.map (flagS yes sp)
 | [],A,_=>by
  show A=A.map fun a=>{ a with shown:=a.shown }
  simp
 | x :: sp,A,hn=>by
  show showAll yes sp (showA A x.1.2.1 x.1.2.2 (yes x)).1=_
  rw [showA_eq hn,showAll_eq yes sp _ (by rw [setI_id];exact hn)]
  unfold setI
  rw [List.map_map]
  refine List.map_congr_left fun a _=>?_
  rw [flagS_cons];rfl
theorem fold_miss {yes:Sp→Bool} {i:IdT}:∀{sp:List Sp} {f:Bool},(∀x∈sp,i≠spI x)→sp.foldl (fun f x=>if i=spI x then yes x else f) f=f
 | [],f,_=>rfl
 | x :: sp,f,h=>by
  rw [List.foldl_cons,if_neg (h x (by simp))]
  exact fold_miss (fun y hy=>h y (by simp [hy]))
theorem fold_hit {yes:Sp→Bool} {i:IdT} {x:Sp}:∀{sp:List Sp} {f:Bool},x∈sp→i=spI x→(∀y∈sp,i=spI y→y=x)→sp.foldl (fun f x=>if i=spI x then yes x else f) f=yes x
 | [],f,h,_,_=>by cases h
 | y :: sp,f,h,hi,hu=>by
  rw [List.foldl_cons]
  by_cases c:x∈sp
  · exact fold_hit c hi (fun z hz=>hu z (by simp [hz]))
  · have hy:x=y:=(List.mem_cons.1 h).resolve_right c
    subst hy
    rw [if_pos hi]
    exact fold_miss (fun z hz e=>c (by have:=hu z (by simp [hz]) e;rw [←this];exact hz))
def okF (D:CV) (a:AtV):Prop:=1≤countD D a.elem∧a.key=(bestD D a.elem).1
structure CI (P Pn:IdT→Prop) (D:CV):Prop where
 n1:∀a∈D.A,1≤a.n
 nd:(D.A.map AtV.id).Nodup
 sp:∀e,∀x∈spOf D e,∃a∈D.A,a.key=x.1∧a.elem=e
 uk:∀e,((spOf D e).map (·.1)).Nodup
 F:∀a∈D.A,¬P a.elem→¬Pn a.elem→(a.shown=true↔okF D a)
 H:∀a∈D.A,¬Pn a.elem→(∀x∈spOf D a.elem,x.1≠a.key)→a.shown=false
 lv:∀a∈D.A,¬Pn a.elem→lookI D.lives a.elem≠none
theorem nodup_map_inj {α β:Type} {f:α→β}:∀{l:List α},(l.map f).Nodup→∀{x y:α},x∈l→y∈l→f x=f y→x=y
 | [],_,x,y,hx,_,_=>by cases hx
 | a :: l,h,x,y,hx,hy,e=>by
  rw [List.map_cons,List.nodup_cons]at h
  rcases List.mem_cons.1 hx with h1 | h1 <;> rcases List.mem_cons.1 hy with h2 | h2
  · rw [h1,h2]
  · exact(h.1 (List.mem_map.2 ⟨y,h2,by rw [←e,h1]⟩)).elim
  · exact(h.1 (List.mem_map.2 ⟨x,h1,by rw [e,h2]⟩)).elim
  · exact nodup_map_inj h.2 h1 h2 e
theorem CI.id {P Pn:IdT→Prop} {D:CV} (C:CI P Pn D) {a b:AtV} (ha:a∈D.A) (hb:b∈D.A) (h:a.id=b.id):a=b:=nodup_map_inj C.nd ha hb h
theorem CI.spot {P Pn:IdT→Prop} {D:CV} (C:CI P Pn D) {a:AtV} (ha:a∈D.A) {e:IdT} {x:Sp} (hx:x∈spOf D e) (h:a.id=spI x):a.key=x.1∧a.elem=e:=by
 obtain⟨b,hb,h1,h2⟩:=C.sp e x hx
 have:a=b:=C.id ha hb (by rw [h,←key_id,h1];rfl)
 subst this;exact⟨h1,h2⟩
theorem CI.spuniq {P Pn:IdT→Prop} {D:CV} (C:CI P Pn D) {e:IdT} {x y:Sp} (hx:x∈spOf D e) (hy:y∈spOf D e) (h:x.1=y.1):x=y:=nodup_map_inj (C.uk e) hx hy h
theorem best_mem {D:CV} {e:IdT} (h:spOf D e≠[]):bestD D e∈spOf D e:=by
 unfold bestD
 cases hl:spOf D e with
 | nil=>exact(h hl).elim
 | cons y l=>
  simp only
  have key:∀(l:List Sp) (b:Sp),l.foldl (bestStep D) b=b∨l.foldl (bestStep D) b∈l:=by
   intro l
   induction l with
   | nil=>intro b;exact .inl rfl
   | cons x l ih=>
    intro b
    rw [List.foldl_cons]
    rcases ih (bestStep D b x)with h1 | h1
    · rw [h1]
      unfold bestStep
      split
      · exact .inr (by simp)
      · exact .inl rfl
    · exact .inr (by simp [h1])
  rcases key l y with h1 | h1
  · rw [h1];simp
  · simp [h1]
theorem CI.renew {P Pn:IdT→Prop} {D:CV} {e:IdT} (C:CI (fun x=>P x∨x=e) Pn D) (hP:¬Pn e):CI P Pn (renewD D e):=by
 have hA:(renewD D e).A=D.A.map (flagS (yesD D e) (spOf D e)):=showAll_eq _ _ _ C.nd
 have hmap:(renewD D e).A.map AtV.id=D.A.map AtV.id:=by
  rw [hA,List.map_map];rfl
 have hmem:∀a∈(renewD D e).A,∃b∈D.A,a=flagS (yesD D e) (spOf D e) b:=by
  intro a ha
  rw [hA]at ha
  obtain⟨b,hb,rfl⟩:=List.mem_map.1 ha
  exact⟨b,hb,rfl⟩
 have other:∀b∈D.A,b.elem≠e→(spOf D e).foldl (fun f x=>if b.id=spI x then yesD D e x else f) b.shown=b.shown:=fun b hb hne=>fold_miss (fun x hx h=>hne (C.spot hb hx h).2)
 have hit:∀b∈D.A,∀x∈spOf D e,b.key=x.1→(spOf D e).foldl (fun f x=>if b.id=spI x then yesD D e x else f) b.shown=yesD D e x:=fun b hb x hx h=>fold_hit hx (by rw [←key_id,h];rfl) (fun y hy hi=>C.spuniq hy hx (by rw [←(C.spot hb hy hi).1,h]))
 have miss:∀b∈D.A,(∀x∈spOf D e,x.1≠b.key)→(spOf D e).foldl (fun f x=>if b.id=spI x then yesD D e x else f) b.shown=b.shown:=fun b hb h=>fold_miss (fun x hx hi=>h x hx (C.spot hb hx hi).1.symm)
 refine⟨fun a ha=>by obtain⟨b,hb,rfl⟩:=hmem a ha;exact C.n1 b hb,by rw [hmap];exact C.nd,fun e' x hx=>?_,C.uk,fun a ha h1 h2=>?_,fun a ha h1 h2=>?_,fun a ha h1=>by obtain⟨b,hb,rfl⟩:=hmem a ha;exact C.lv b hb h1⟩
 · obtain⟨b,hb,b1,b2⟩:=C.sp e' x hx
   exact⟨flagS (yesD D e) (spOf D e) b,by rw [hA];exact List.mem_map.2 ⟨b,hb,rfl⟩,b1,b2⟩
 · obtain⟨b,hb,rfl⟩:=hmem a ha
   show(spOf D e).foldl _ b.shown=true↔okF D b
   by_cases he:b.elem=e
   · by_cases hs:∃x∈spOf D e,x.1=b.key
     · obtain⟨x,hx,hk⟩:=hs
       rw [hit b hb x hx hk.symm]
       unfold yesD okF
       rw [he,Bool.and_eq_true,decide_eq_true_iff,decide_eq_true_iff,←hk]
       have hbm:=best_mem (D:=D) (e:=e) (fun e0=>by rw [e0]at hx;cases hx)
       exact⟨fun⟨a1,a2⟩=>⟨a1,by rw [a2]⟩,fun⟨a1,a2⟩=>⟨a1,C.spuniq hx hbm a2⟩⟩
     · have hs':∀x∈spOf D e,x.1≠b.key:=fun x hx h=>hs ⟨x,hx,h⟩
       rw [miss b hb hs',C.H b hb h2 (by rw [he];exact hs')]
       refine⟨fun h=>(by cases h),fun h=>?_⟩
       unfold okF at h
       rw [he]at h
       by_cases h0:spOf D e=[]
       · exfalso
         have hz:bestD D e=zeroSp:=by unfold bestD;rw [h0]
         have hc:=h.2
         rw [hz]at hc
         have:=C.n1 b hb
         have h4:b.n=0:=congrArg (fun k:KeyT=>k.2.2) hc
         omega
       · exact(hs' _ (best_mem h0) h.2.symm).elim
   · rw [other b hb he]
     exact C.F b hb (fun h=>h.elim h1 he) h2
 · obtain⟨b,hb,rfl⟩:=hmem a ha
   show(spOf D e).foldl _ b.shown=false
   have h3:=C.H b hb h1 h2
   by_cases he:b.elem=e
   · rw [miss b hb (by rw [←he];exact h2)];exact h3
   · rw [other b hb he];exact h3
end Go.Proofs.YtlhlbamcgopiiaaGreatDoor
set_option linter.all false
set_option maxRecDepth 100000
set_option maxHeartbeats 4000000
namespace Go.Proofs.YtlhlbamcgopiiaaGreatDoor
open Go Go.RowKit Go.Proofs
theorem grA_perm (A:List AtV) (p:Nat) (r:RunV):(grA A p r).Perm (A++atomsOf r):=by
 unfold grA
 obtain⟨B,hB⟩:∃B,B=A.drop p:=⟨_,rfl⟩
 rw [←hB]
 have e:A=A.take p++(B.takeWhile (fun z=>decide (klt r.key z.key))++B.dropWhile (fun z=>decide (klt r.key z.key))):=by
  rw [List.takeWhile_append_dropWhile,hB,List.take_append_drop]
 have h:(A.take p++(B.takeWhile (fun z=>decide (klt r.key z.key))++(atomsOf r++B.dropWhile (fun z=>decide (klt r.key z.key))))).Perm (A.take p++(B.takeWhile (fun z=>decide (klt r.key z.key))++B.dropWhile (fun z=>decide (klt r.key z.key)))++atomsOf r):=by
  rw [List.append_assoc]
  refine List.Perm.append_left _ ?_
  rw [List.append_assoc]
  exact List.Perm.append_left _ List.perm_append_comm
 rw [←e]at h
 exact h
theorem putG_perm (A:List AtV) (x:IdT) (r:RunV):(putG A x r).Perm (A++atomsOf r):=grA_perm _ _ _
theorem putG_mem {A:List AtV} {x:IdT} {r:RunV} {a:AtV}:a∈putG A x r↔a∈A∨a∈atomsOf r:=by rw [(putG_perm A x r).mem_iff,List.mem_append]
theorem putG_len (A:List AtV) (x:IdT) (r:RunV):(putG A x r).length=A.length+r.text.length:=by rw [(putG_perm A x r).length_eq,List.length_append,atomsOf_len]
theorem hit_no {A:List AtV} {r:RunV} (h:hitA A r=false):∀a∈atomsOf r,∀b∈A,b.id≠a.id:=by
 intro a ha b hb e
 unfold hitA at h
 rw [List.any_eq_false]at h
 have h1:=h a ha
 have h2:atIx A a.r a.n=none:=by
  cases hx:atIx A a.r a.n with
  | none=>rfl
  | some i=>rw [hx]at h1;exact(h1 rfl).elim
 unfold atIx at h2
 rw [List.findIdx?_eq_none_iff]at h2
 have h3:=h2 b hb
 simp only [decide_eq_false_iff_not]at h3
 unfold AtV.id at e
 simp only [Prod.mk.injEq]at e
 exact h3 e
theorem atomsOf_mem {r:RunV} {a:AtV} (h:a∈atomsOf r):∃i,i < r.text.length∧r.text[i]?=some a.b∧a=⟨r.clock,r.r,r.n+i,r.er,r.en+i,a.b,r.shown⟩:=by
 obtain⟨i,hi⟩:=List.mem_iff_getElem?.1 h
 rw [atomsOf_get]at hi
 cases hx:r.text[i]? with
 | none=>rw [hx]at hi;cases hi
 | some b=>
  rw [hx]at hi
  cases hi
  exact⟨i,(List.getElem?_eq_some_iff.1 hx).1,hx,rfl⟩
theorem putG_nd {A:List AtV} {x:IdT} {r:RunV} (hn:(A.map AtV.id).Nodup) (hit:hitA A r=false):((putG A x r).map AtV.id).Nodup:=by
 rw [((putG_perm A x r).map AtV.id).nodup_iff,List.map_append,List.nodup_append]
 refine⟨hn,(atF_ids _ _ _ _ _ _ _).1,fun i hi j hj e=>?_⟩
 obtain⟨b,hb,rfl⟩:=List.mem_map.1 hi
 obtain⟨a,ha,rfl⟩:=List.mem_map.1 hj
 exact hit_no hit a ha b hb e
theorem offD_touch (D:CV) (k e k':IdT):offD (touchD D k e) k'=offD D k':=by
 unfold touchD
 cases hd:lookI D.deeds k with
 | none=>rfl
 | some d=>
  simp only
  split
  · rfl
  · unfold offD
    simp only
    rw [look_put]
    by_cases c:k'=k
    · rw [if_pos c,c,hd]
    · rw [if_neg c]
theorem countD_congr {D D':CV} {e:IdT} (hl:lookI D'.lives e=lookI D.lives e) (ho:∀k,offD D' k=offD D k):countD D' e=countD D e:=by
 have:offD D'=offD D:=funext ho
 unfold countD
 rw [hl,this]
theorem bestD_congr {D D':CV} {e:IdT} (hl:spOf D' e=spOf D e) (ho:∀k,offD D' k=offD D k):bestD D' e=bestD D e:=by
 have:bestStep D'=bestStep D:=by funext b x;unfold bestStep;rw [ho]
 unfold bestD
 rw [hl,this]
theorem okF_congr {D D':CV} {a:AtV} (h1:lookI D'.lives a.elem=lookI D.lives a.elem) (h2:spOf D' a.elem=spOf D a.elem) (ho:∀k,offD D' k=offD D k):okF D' a↔okF D a:=by
 unfold okF
 rw [countD_congr h1 ho,bestD_congr h2 ho]
variable {P Pn:IdT→Prop} {D:CV}
theorem okF_key {D:CV} {a:AtV} (hn:1≤a.n) (h:okF D a):∃x∈spOf D a.elem,x.1=a.key:=by
 by_cases h0:spOf D a.elem=[]
 · have hz:bestD D a.elem=zeroSp:=by unfold bestD;rw [h0]
   have hc:=h.2
   rw [hz]at hc
   have h4:a.n=0:=congrArg (fun k:KeyT=>k.2.2) hc
   omega
 · exact⟨_,best_mem h0,h.2.symm⟩
theorem CI.put (C:CI P Pn D) {x:IdT} {r:RunV} (hr:1≤r.n) (hit:hitA D.A r=false) (hs:r.shown=false) (hl:∀a∈atomsOf r,lookI D.lives a.elem≠none):CI P Pn { D with A:=putG D.A x r }:=by
 have key:∀a∈atomsOf r,a.shown=false∧1≤a.n:=fun a ha=>by
  obtain⟨i,_,_,e⟩:=atomsOf_mem ha
  rw [e];exact⟨hs,by simp only [];omega⟩
 have new:∀a∈atomsOf r,∀e,∀x∈spOf D e,x.1≠a.key:=fun a ha e x hx h=>by
  obtain⟨b,hb,b1,_⟩:=C.sp e x hx
  exact hit_no hit a ha b hb (by rw [←key_id,←key_id,b1,h])
 refine⟨fun a ha=>?_,putG_nd C.nd hit,fun e y hy=>?_,C.uk,fun a ha h1 h2=>?_,fun a ha h1 h2=>?_,fun a ha h1=>?_⟩
 · rcases putG_mem.1 ha with h | h
   · exact C.n1 a h
   · exact(key a h).2
 · obtain⟨b,hb,b1,b2⟩:=C.sp e y hy
   exact⟨b,putG_mem.2 (.inl hb),b1,b2⟩
 · rcases putG_mem.1 ha with h | h
   · exact C.F a h h1 h2
   · rw [(key a h).1]
     refine⟨fun h=>(by cases h),fun ho=>?_⟩
     obtain⟨y,hy,hk⟩:=okF_key (key a h).2 ho
     exact(new a h _ y hy hk).elim
 · rcases putG_mem.1 ha with h | h
   · exact C.H a h h1 h2
   · exact(key a h).1
 · rcases putG_mem.1 ha with h | h
   · exact C.lv a h h1
   · exact hl a h
theorem CI.add (C:CI P Pn D) {k e:IdT} {key:KeyT} {a0:AtV} (ha0:a0∈D.A) (h1:a0.key=key) (h2:a0.elem=e) (hf:∀y∈spOf D e,y.1≠key):CI (fun x=>P x∨x=e) Pn (addD (touchD D k e) e (key,k)):=by
 obtain⟨t1,t2,t3,t4,t5⟩:=touchD_sp D k e
 have hA:(addD (touchD D k e) e (key,k)).A=D.A:=t4
 have hsp:∀e',spOf (addD (touchD D k e) e (key,k)) e'=if e'=e then spOf D e++[(key,k)]else spOf D e':=fun e'=>by
  have:∀e,spOf (touchD D k e) e=spOf D e:=fun e=>by unfold spOf;rw [(touchD_sp D k e).1]
  have h3:∀e',spOf (touchD D k e) e'=spOf D e':=fun e'=>by unfold spOf;rw [t1]
  rw [spOf_add,h3,h3]
 have ho:∀k',offD (addD (touchD D k e) e (key,k)) k'=offD D k':=fun k'=>offD_touch D k e k'
 have hlv:∀e',lookI (addD (touchD D k e) e (key,k)).lives e'=lookI D.lives e':=fun e'=>by
  show lookI (touchD D k e).lives e'=_
  rw [touchD_lives]
 refine⟨fun a ha=>C.n1 a (by rw [←hA];exact ha),by rw [hA];exact C.nd,fun e' x hx=>?_,fun e'=>?_,fun a ha g1 g2=>?_,fun a ha g1 g2=>?_,fun a ha g1=>by rw [hlv];rw [hA]at ha;exact C.lv a ha g1⟩
 · rw [hA]
   rw [hsp]at hx
   by_cases c:e'=e
   · rw [if_pos c]at hx
     rcases List.mem_append.1 hx with h | h
     · obtain⟨b,hb,b1,b2⟩:=C.sp e x h;exact⟨b,hb,b1,b2.trans c.symm⟩
     · simp at h;subst h;exact⟨a0,ha0,h1,h2.trans c.symm⟩
   · rw [if_neg c]at hx
     exact C.sp e' x hx
 · rw [hsp]
   by_cases c:e'=e
   · rw [if_pos c,List.map_append,List.nodup_append]
     refine⟨C.uk e,by simp,fun i hi j hj e'=>?_⟩
     obtain⟨y,hy,rfl⟩:=List.mem_map.1 hi
     simp at hj
     exact hf y hy (e'.trans hj)
   · rw [if_neg c];exact C.uk e'
 · rw [hA]at ha
   have hne:a.elem≠e:=fun h=>g1 (.inr h)
   rw [okF_congr (hlv _) (by rw [hsp,if_neg hne]) ho]
   exact C.F a ha (fun h=>g1 (.inl h)) g2
 · rw [hA]at ha
   refine C.H a ha g1 (fun x hx=>g2 x ?_)
   rw [hsp]
   by_cases c:a.elem=e
   · rw [if_pos c];rw [c]at hx;exact List.mem_append.2 (.inl hx)
   · rw [if_neg c];exact hx
theorem CI.let_ (C:CI P Pn D) {k e:IdT}:CI (fun x=>P x∨x=e) Pn (letD (touchD D k e) k e):=by
 obtain⟨t1,t2,t3,t4,t5⟩:=touchD_sp D k e
 have hA:(letD (touchD D k e) k e).A=D.A:=by unfold letD;split <;> exact t4
 have hS:(letD (touchD D k e) k e).sp=D.sp:=by unfold letD;split <;> exact t1
 have hsp:∀e',spOf (letD (touchD D k e) k e) e'=spOf D e':=fun e'=>by unfold spOf;rw [hS]
 have ho:∀k',offD (letD (touchD D k e) k e) k'=offD D k':=fun k'=>by
  rw [←offD_touch D k e k']
  unfold letD;split <;> rfl
 have hlv:∀e',e'≠e→lookI (letD (touchD D k e) k e).lives e'=lookI D.lives e':=fun e' hne=>by
  unfold letD
  rw [touchD_lives]
  cases hl:lookI D.lives e with
  | none=>show lookI (touchD D k e).lives e'=_;rw [touchD_lives]
  | some l=>
   simp only
   rw [look_put,if_neg hne]
 have hln:∀e',lookI D.lives e'≠none→lookI (letD (touchD D k e) k e).lives e'≠none:=fun e' h=>by
  by_cases c:e'=e
  · subst c
    unfold letD
    rw [touchD_lives]
    cases hl:lookI D.lives e' with
    | none=>exact(h hl).elim
    | some l=>simp only;rw [look_put,if_pos rfl];simp
  · rw [hlv e' c];exact h
 refine⟨fun a ha=>C.n1 a (by rw [←hA];exact ha),by rw [hA];exact C.nd,fun e' x hx=>by rw [hA];rw [hsp]at hx;exact C.sp e' x hx,fun e'=>by rw [hsp];exact C.uk e',fun a ha g1 g2=>?_,fun a ha g1 g2=>?_,fun a ha g1=>hln _ (C.lv a (by rw [←hA];exact ha) g1)⟩
 · rw [hA]at ha
   have hne:a.elem≠e:=fun h=>g1 (.inr h)
   rw [okF_congr (hlv _ hne) (hsp _) ho]
   exact C.F a ha (fun h=>g1 (.inl h)) g2
 · rw [hA]at ha
   exact C.H a ha g1 (fun x hx=>g2 x (by rw [hsp];exact hx))
theorem CI.insPut (C:CI P Pn D) {x:IdT} {r:RunV} (hr:1≤r.n) (hit:hitA D.A r=false):CI P (fun e=>Pn e∨∃a∈atomsOf r,a.elem=e) { D with A:=putG D.A x r }:=by
 refine⟨fun a ha=>?_,putG_nd C.nd hit,fun e y hy=>?_,C.uk,fun a ha h1 h2=>?_,fun a ha h1 h2=>?_,fun a ha h1=>?_⟩
 · rcases putG_mem.1 ha with h | h
   · exact C.n1 a h
   · obtain⟨i,_,_,e⟩:=atomsOf_mem h
     rw [e];simp only [];omega
 · obtain⟨b,hb,b1,b2⟩:=C.sp e y hy
   exact⟨b,putG_mem.2 (.inl hb),b1,b2⟩
 · rcases putG_mem.1 ha with h | h
   · exact C.F a h h1 (fun e=>h2 (.inl e))
   · exact(h2 (.inr ⟨a,h,rfl⟩)).elim
 · rcases putG_mem.1 ha with h | h
   · exact C.H a h (fun e=>h1 (.inl e)) h2
   · exact(h1 (.inr ⟨a,h,rfl⟩)).elim
 · rcases putG_mem.1 ha with h | h
   · exact C.lv a h (fun e=>h1 (.inl e))
   · exact(h1 (.inr ⟨a,h,rfl⟩)).elim
theorem CI.insStep (C:CI P Pn D) {k:IdT} {key:KeyT} {a0:AtV} (ha0:a0∈D.A) (h1:a0.key=key) (h2:a0.elem=key.2) (h3:a0.shown=true) (hu:∀a∈D.A,a.elem=key.2→a=a0) (hs:spOf D key.2=[]) (hoff:offD D k=false):CI P (fun x=>Pn x∧x≠key.2) (insStep D k key):=by
 obtain⟨t1,t2,t3,t4,t5⟩:=touchD_sp D k key.2
 have hA:(Go.Proofs.YtlhlbamcgopiiaaGreatDoor.insStep D k key).A=D.A:=t4
 have hsp:=insStep_sp D k key
 have hlv:=insStep_lives D k key
 have ho:∀k',offD (Go.Proofs.YtlhlbamcgopiiaaGreatDoor.insStep D k key) k'=offD D k':=fun k'=>offD_touch D k key.2 k'
 refine⟨fun a ha=>C.n1 a (by rw [←hA];exact ha),by rw [hA];exact C.nd,fun e' x hx=>?_,fun e'=>?_,fun a ha g1 g2=>?_,fun a ha g1 g2=>?_,fun a ha g1=>?_⟩
 · rw [hA]
   rw [hsp]at hx
   by_cases c:e'=key.2
   · rw [if_pos c,hs]at hx
     simp at hx
     subst hx;exact⟨a0,ha0,h1,h2.trans c.symm⟩
   · rw [if_neg c]at hx
     exact C.sp e' x hx
 · rw [hsp]
   by_cases c:e'=key.2
   · rw [if_pos c,hs];simp
   · rw [if_neg c];exact C.uk e'
 · rw [hA]at ha
   by_cases c:a.elem=key.2
   · have:a=a0:=hu a ha c
     subst this
     refine⟨fun _=>⟨?_,?_⟩,fun _=>h3⟩
     · unfold countD
       rw [hlv,if_pos c]
       simp only [ho,hoff,List.filter_nil,List.length_nil]
       decide
     · unfold bestD
       rw [hsp,if_pos c,hs]
       exact h1
   · rw [okF_congr (by rw [hlv,if_neg c]) (by rw [hsp,if_neg c]) ho]
     exact C.F a ha g1 (fun h=>g2 ⟨h,c⟩)
 · rw [hA]at ha
   by_cases c:a.elem=key.2
   · have:a=a0:=hu a ha c
     subst this
     exact(g2 (key,k) (by rw [hsp,if_pos c,hs];simp) h1.symm).elim
   · exact C.H a ha (fun h=>g1 ⟨h,c⟩) (fun x hx=>g2 x (by rw [hsp,if_neg c];exact hx))
 · rw [hA]at ha
   rw [hlv]
   by_cases c:a.elem=key.2
   · rw [if_pos c];simp
   · rw [if_neg c];exact C.lv a ha (fun h=>g1 ⟨h,c⟩)
def depD (D:CV) (k e:IdT):Prop:=(∃l,lookI D.lives e=some l∧(l.made=k∨k∈l.gone))∨∃x∈spOf D e,x.2=k
theorem CI.mono {P' Pn':IdT→Prop} (C:CI P Pn D) (h:∀e,P e→P' e) (h2:∀e,Pn e↔Pn' e):CI P' Pn' D:=
 ⟨C.n1,C.nd,C.sp,C.uk,fun a ha g1 g2=>C.F a ha (fun e=>g1 (h _ e)) (fun e=>g2 ((h2 _).1 e)),fun a ha g1 g2=>C.H a ha (fun e=>g1 ((h2 _).1 e)) g2,fun a ha g1=>C.lv a ha (fun e=>g1 ((h2 _).1 e))⟩
end Go.Proofs.YtlhlbamcgopiiaaGreatDoor
set_option linter.all false
set_option maxRecDepth 100000
set_option maxHeartbeats 4000000
namespace Go.Proofs.YtlhlbamcgopiiaaGreatDoor
open Go Go.RowKit Go.Proofs
structure PI (P Pn:IdT→Prop) (N K T:Nat) (D:CV):Prop where
 ci:CI P Pn D
 at_:∀a∈D.A,a.r=1∧a.n < N∧a.clock≤K∧plainB a.b=true∧a.er=1∧1≤a.en∧a.en < N
 own:∀a∈D.A,∃o∈D.A,o.id=a.elem∧o.b=a.b
 lv:∀e l,lookI D.lives e=some l→e.1=1∧e.2 < N∧l.gone.length≤T
 off:∀k,offD D k=false
 dd:∀k d,lookI D.deeds k=some d→d.touched.length≤T
 sl:∀e,(spOf D e).length≤T
 inc:∀e,(spOf D e).Pairwise (fun x y=>klt x.1 y.1)
 ns:D.nsp≤T
 el:D.elems≤T
 len:D.A.length+1≤N
theorem CI.same {P Pn:IdT→Prop} {D D':CV} (C:CI P Pn D) (hA:D'.A=D.A) (hs:D'.sp=D.sp) (hl:D'.lives=D.lives) (ho:∀k,offD D' k=offD D k):CI P Pn D':=by
 have hsp:∀e,spOf D' e=spOf D e:=fun e=>by unfold spOf;rw [hs]
 refine⟨by rw [hA];exact C.n1,by rw [hA];exact C.nd,fun e x hx=>by rw [hA];rw [hsp]at hx;exact C.sp e x hx,fun e=>by rw [hsp];exact C.uk e,fun a ha g1 g2=>?_,fun a ha g1 g2=>?_,fun a ha g1=>by rw [hl];rw [hA]at ha;exact C.lv a ha g1⟩
 · rw [hA]at ha
   rw [okF_congr (by rw [hl]) (hsp _) ho]
   exact C.F a ha g1 g2
 · rw [hA]at ha
   exact C.H a ha g1 (fun x hx=>g2 x (by rw [hsp];exact hx))
theorem off_begin {D:CV} {k:IdT} {u:Bool} {c:Nat} (h:∀k,offD D k=false) (k':IdT):offD (beginD D k u c) k'=false:=by
 have:=h k'
 unfold beginD offD at *
 simp only at *
 rw [look_put]
 by_cases e:k'=k
 · rw [if_pos e];rfl
 · rw [if_neg e];exact this
variable {P Pn:IdT→Prop} {N K T:Nat} {D:CV}
theorem PI.begin (h:PI P Pn N K T D) (k:IdT) (u:Bool) (c:Nat):PI P Pn N K T (beginD D k u c):=by
 refine⟨h.ci.same rfl rfl rfl (fun k'=>by rw [off_begin h.off,h.off]),h.at_,h.own,h.lv,off_begin h.off,fun k' d hd=>?_,h.sl,h.inc,h.ns,h.el,h.len⟩
 unfold beginD at hd
 simp only at hd
 rw [look_put]at hd
 by_cases e:k'=k
 · rw [if_pos e]at hd;cases hd;simp
 · rw [if_neg e]at hd;exact h.dd k' d hd
theorem PI.new:PI P Pn 1 0 0 CV.nil:=
 ⟨⟨fun a h=>(by cases h),List.nodup_nil,fun e x h=>(by cases h),fun e=>List.nodup_nil,fun a h=>(by cases h),fun a h=>(by cases h),fun a h=>(by cases h)⟩,fun a h=>(by cases h),fun a h=>(by cases h),fun e l h=>(by cases h),fun k=>rfl,fun k d h=>(by cases h),fun e=>Nat.le_refl _,fun e=>List.Pairwise.nil,Nat.le_refl _,Nat.le_refl _,Nat.le_refl _⟩
theorem hit_new {A:List AtV} {r:RunV} (h:∀a∈A,a.n < r.n):hitA A r=false:=by
 unfold hitA
 rw [List.any_eq_false]
 intro a ha
 obtain⟨i,hi,_,e⟩:=atomsOf_mem ha
 have hn:atIx A a.r a.n=none:=by
  unfold atIx
  rw [List.findIdx?_eq_none_iff]
  intro b hb
  simp only [decide_eq_false_iff_not]
  rintro⟨_,h2⟩
  have:=h b hb
  rw [e]at h2
  simp only []at h2
  omega
 rw [hn];simp
theorem plain_mem {s:Str} (h:plain s=true) {b:UInt8} (hb:b∈s):plainB b=true:=by
 unfold plain at h
 exact List.all_eq_true.1 h b hb
theorem PI.insPut (h:PI P Pn N K T D) {x:IdT} {tx:Str} {K':Nat} (hp:plain tx=true) (hK:K≤K') (hN:1≤N):PI P (fun e=>Pn e∨∃a∈atomsOf ⟨K',1,N,1,N,tx,true⟩,a.elem=e) (N+tx.length) K' T { D with A:=putG D.A x ⟨K',1,N,1,N,tx,true⟩ }:=by
 refine⟨h.ci.insPut hN (hit_new fun a ha=>(h.at_ a ha).2.1),fun a ha=>?_,fun a ha=>?_,fun e l he=>?_,h.off,h.dd,h.sl,h.inc,h.ns,h.el,?_⟩
 · rcases putG_mem.1 ha with h1 | h1
   · obtain⟨a1,a2,a3,a4,a5,a6,a7⟩:=h.at_ a h1
     exact⟨a1,by omega,by omega,a4,a5,a6,by omega⟩
   · obtain⟨i,hi,hb,e⟩:=atomsOf_mem h1
     simp only []at hi hb e
     have hpl:=plain_mem hp (List.mem_of_getElem? hb)
     rw [e]
     exact⟨rfl,by simp only [];omega,Nat.le_refl _,hpl,rfl,by simp only [];omega,by simp only [];omega⟩
 · rcases putG_mem.1 ha with h1 | h1
   · obtain⟨o,ho,o1,o2⟩:=h.own a h1
     exact⟨o,putG_mem.2 (.inl ho),o1,o2⟩
   · refine⟨a,ha,?_,rfl⟩
     obtain⟨i,hi,hb,e⟩:=atomsOf_mem h1
     rw [e];rfl
 · obtain⟨l1,l2,l3⟩:=h.lv e l he
   exact⟨l1,by omega,l3⟩
 · show(putG _ _ _).length+1≤_
   rw [putG_len]
   have:=h.len
   simp only [];omega
theorem touchD_len {D:CV} {k e:IdT} {T:Nat} (h:∀k d,lookI D.deeds k=some d→d.touched.length≤T):∀k' d,lookI (touchD D k e).deeds k'=some d→d.touched.length≤T+1:=by
 intro k' d hd
 unfold touchD at hd
 cases h0:lookI D.deeds k with
 | none=>rw [h0]at hd;have:=h k' d hd;omega
 | some d0=>
  rw [h0]at hd
  simp only at hd
  split at hd
  · have:=h k' d hd;omega
  · simp only at hd
    rw [look_put]at hd
    by_cases c:k'=k
    · rw [if_pos c]at hd
      cases hd
      have:=h k d0 h0
      simp;omega
    · rw [if_neg c]at hd
      have:=h k' d hd;omega
theorem PI.insStep (h:PI P Pn N K T D) {k:IdT} {m:Nat} {a0:AtV} (ha0:a0∈D.A) (h1:a0.key=(K,1,m)) (h2:a0.elem=(1,m)) (h3:a0.shown=true) (hu:∀a∈D.A,a.elem=(1,m)→a=a0) (hs:spOf D (1,m)=[]):PI P (fun x=>Pn x∧x≠(1,m)) N K (T+1) (insStep D k (K,1,m)):=by
 obtain⟨t1,t2,t3,t4,t5⟩:=touchD_sp D k (1,m)
 have hA:(Go.Proofs.YtlhlbamcgopiiaaGreatDoor.insStep D k (K,1,m)).A=D.A:=t4
 have hsp:=insStep_sp D k (K,1,m)
 have hlv:=insStep_lives D k (K,1,m)
 have hm:=(h.at_ a0 ha0).2.1
 have hm2:a0.n=m:=congrArg (fun k:KeyT=>k.2.2) h1
 refine⟨h.ci.insStep ha0 h1 h2 h3 hu hs (h.off k),by rw [hA];exact h.at_,by rw [hA];exact h.own,fun e l he=>?_,fun k'=>(offD_touch D k (1,m) k').trans (h.off k'),touchD_len h.dd,fun e=>?_,fun e=>?_,?_,?_,by rw [hA];exact h.len⟩
 · rw [hlv]at he
   by_cases c:e=(1,m)
   · rw [if_pos c]at he;cases he
     rw [c];exact⟨rfl,by simp only [];omega,by simp⟩
   · rw [if_neg c]at he
     obtain⟨l1,l2,l3⟩:=h.lv e l he
     exact⟨l1,l2,by omega⟩
 · rw [hsp]
   by_cases c:e=(1,m)
   · rw [if_pos c,hs];simp
   · rw [if_neg c];have:=h.sl e;omega
 · rw [hsp]
   by_cases c:e=(1,m)
   · rw [if_pos c,hs];simp
   · rw [if_neg c];exact h.inc e
 · show(touchD D k (1,m)).nsp+1≤_
   rw [t2];have:=h.ns;omega
 · show D.elems+1≤_
   have:=h.el;omega
theorem PI.put (h:PI P Pn N K T D) {x:IdT} {r:RunV} {K':Nat} (hK:K≤K') (hN:1≤N) (r1:r.clock=K'∧r.r=1∧r.n=N∧r.er=1∧r.shown=false) (hel:∀a∈atomsOf r,1≤a.en∧lookI D.lives a.elem≠none∧∃o∈D.A,o.id=a.elem∧o.b=a.b):PI P Pn (N+r.text.length) K' T { D with A:=putG D.A x r }:=by
 obtain⟨r1,r2,r3,r4,r5⟩:=r1
 refine⟨h.ci.put (by omega) (hit_new fun a ha=>by rw [r3];exact(h.at_ a ha).2.1) r5 (fun a ha=>(hel a ha).2.1),fun a ha=>?_,fun a ha=>?_,fun e l he=>?_,h.off,h.dd,h.sl,h.inc,h.ns,h.el,?_⟩
 · rcases putG_mem.1 ha with h1 | h1
   · obtain⟨a1,a2,a3,a4,a5,a6,a7⟩:=h.at_ a h1
     exact⟨a1,by omega,by omega,a4,a5,a6,by omega⟩
   · obtain⟨i,hi,hb,e⟩:=atomsOf_mem h1
     obtain⟨e1,e2,o,ho,o1,o2⟩:=hel a h1
     obtain⟨b1,b2,b3,b4,b5,b6,b7⟩:=h.at_ o ho
     have hen:a.en=o.n:=(congrArg Prod.snd o1).symm
     have her:a.er=1:=by rw [e];exact r4
     have h2:a.r=1∧a.n < N+r.text.length∧a.clock≤K':=by rw [e];simp only [];omega
     exact⟨h2.1,h2.2.1,h2.2.2,by rw [←o2];exact b4,her,e1,by omega⟩
 · rcases putG_mem.1 ha with h1 | h1
   · obtain⟨o,ho,o1,o2⟩:=h.own a h1
     exact⟨o,putG_mem.2 (.inl ho),o1,o2⟩
   · obtain⟨_,_,o,ho,o1,o2⟩:=hel a h1
     exact⟨o,putG_mem.2 (.inl ho),o1,o2⟩
 · obtain⟨l1,l2,l3⟩:=h.lv e l he
   exact⟨l1,by omega,l3⟩
 · show(putG _ _ _).length+1≤_
   rw [putG_len]
   have:=h.len
   omega
theorem renewD_ids (D:CV) (e:IdT) (hn:(D.A.map AtV.id).Nodup):∀a∈(renewD D e).A,∃b∈D.A,a=flagS (yesD D e) (spOf D e) b:=by
 intro a ha
 have hA:(renewD D e).A=D.A.map (flagS (yesD D e) (spOf D e)):=showAll_eq _ _ _ hn
 rw [hA]at ha
 obtain⟨b,hb,rfl⟩:=List.mem_map.1 ha
 exact⟨b,hb,rfl⟩
theorem PI.renew {e:IdT} (h:PI (fun x=>P x∨x=e) Pn N K T D) (hP:¬Pn e):PI P Pn N K T (renewD D e):=by
 have hA:(renewD D e).A=D.A.map (flagS (yesD D e) (spOf D e)):=showAll_eq _ _ _ h.ci.nd
 refine⟨h.ci.renew hP,fun a ha=>?_,fun a ha=>?_,h.lv,h.off,h.dd,h.sl,h.inc,h.ns,h.el,by rw [hA,List.length_map];exact h.len⟩
 · obtain⟨b,hb,rfl⟩:=renewD_ids D e h.ci.nd a ha
   exact h.at_ b hb
 · obtain⟨b,hb,rfl⟩:=renewD_ids D e h.ci.nd a ha
   obtain⟨o,ho,o1,o2⟩:=h.own b hb
   exact⟨flagS (yesD D e) (spOf D e) o,by rw [hA];exact List.mem_map.2 ⟨o,ho,rfl⟩,o1,o2⟩
theorem PI.mov (h:PI P Pn N K T D) {k e:IdT} {key:KeyT} {a0:AtV} (hP:¬Pn e) (ha0:a0∈D.A) (h1:a0.key=key) (h2:a0.elem=e) (hf:∀y∈spOf D e,klt y.1 key):PI P Pn N K (T+1) (movStep D k e key):=by
 obtain⟨t1,t2,t3,t4,t5⟩:=touchD_sp D k e
 have hA:(addD (touchD D k e) e (key,k)).A=D.A:=t4
 have hs3:∀e',spOf (touchD D k e) e'=spOf D e':=fun e'=>by unfold spOf;rw [t1]
 have hsp:∀e',spOf (addD (touchD D k e) e (key,k)) e'=if e'=e then spOf D e++[(key,k)]else spOf D e':=fun e'=>by rw [spOf_add,hs3,hs3]
 have M:PI (fun x=>P x∨x=e) Pn N K (T+1) (addD (touchD D k e) e (key,k)):=by
  refine⟨h.ci.add ha0 h1 h2 (fun y hy hk=>klt_irrefl key (by rw [←hk];exact(by have:=hf y hy;rw [hk]at this;exact(klt_irrefl _ this).elim))),by rw [hA];exact h.at_,by rw [hA];exact h.own,fun e' l he=>?_,fun k'=>(offD_touch D k e k').trans (h.off k'),touchD_len h.dd,fun e'=>?_,fun e'=>?_,?_,?_,by rw [hA];exact h.len⟩
  · have he:lookI (touchD D k e).lives e'=some l:=he
    rw [touchD_lives]at he
    obtain⟨l1,l2,l3⟩:=h.lv e' l he
    exact⟨l1,l2,by omega⟩
  · rw [hsp]
    by_cases c:e'=e
    · rw [if_pos c];have:=h.sl e;simp;omega
    · rw [if_neg c];have:=h.sl e';omega
  · rw [hsp]
    by_cases c:e'=e
    · rw [if_pos c,List.pairwise_append]
      exact⟨h.inc e,List.pairwise_singleton _ _,fun x hx y hy=>by simp at hy;subst hy;exact hf x hx⟩
    · rw [if_neg c];exact h.inc e'
  · show(touchD D k e).nsp+1≤_
    rw [t2];have:=h.ns;omega
  · show(touchD D k e).elems≤_
    rw [t3];have:=h.el;omega
 exact M.renew hP
theorem PI.del (h:PI P Pn N K T D) {k e:IdT} (hP:¬Pn e):PI P Pn N K (T+1) (delStep D k e):=by
 obtain⟨t1,t2,t3,t4,t5⟩:=touchD_sp D k e
 have parts:(letD (touchD D k e) k e).A=D.A∧(letD (touchD D k e) k e).sp=D.sp∧(letD (touchD D k e) k e).deeds=(touchD D k e).deeds∧(letD (touchD D k e) k e).nsp=D.nsp∧(letD (touchD D k e) k e).elems=D.elems:=by
  unfold letD;split <;> exact⟨t4,t1,rfl,t2,t3⟩
 obtain⟨p1,p2,p3,p4,p5⟩:=parts
 have hsp:∀e',spOf (letD (touchD D k e) k e) e'=spOf D e':=fun e'=>by unfold spOf;rw [p2]
 have M:PI (fun x=>P x∨x=e) Pn N K (T+1) (letD (touchD D k e) k e):=by
  refine⟨h.ci.let_,by rw [p1];exact h.at_,by rw [p1];exact h.own,fun e' l he=>?_,fun k'=>?_,by rw [p3];exact touchD_len h.dd,fun e'=>by rw [hsp];have:=h.sl e';omega,fun e'=>by rw [hsp];exact h.inc e',by rw [p4];have:=h.ns;omega,by rw [p5];have:=h.el;omega,by rw [p1];exact h.len⟩
  · unfold letD at he
    rw [touchD_lives]at he
    cases hl:lookI D.lives e with
    | none=>
     rw [hl]at he
     have he:lookI (touchD D k e).lives e'=some l:=he
     rw [touchD_lives]at he
     obtain⟨l1,l2,l3⟩:=h.lv e' l he
     exact⟨l1,l2,by omega⟩
    | some l0=>
     rw [hl]at he
     simp only at he
     rw [look_put]at he
     by_cases c:e'=e
     · rw [if_pos c]at he
       cases he
       obtain⟨l1,l2,l3⟩:=h.lv e l0 hl
       rw [c];exact⟨l1,l2,by simp;omega⟩
     · rw [if_neg c]at he
       obtain⟨l1,l2,l3⟩:=h.lv e' l he
       exact⟨l1,l2,by omega⟩
  · rw [show offD (letD (touchD D k e) k e) k'=offD D k' from by rw [←offD_touch D k e k'];unfold offD;rw [p3]]
    exact h.off k'
 exact M.renew hP
end Go.Proofs.YtlhlbamcgopiiaaGreatDoor
set_option linter.all false
set_option maxRecDepth 100000
set_option maxHeartbeats 4000000
namespace Go.Proofs.YtlhlbamcgopiiaaGreatDoor
open Go Go.RowKit Go.Proofs
def ancP (A:List AtV) (i:Nat):IdT:=if i=0 then(0,0)else match (shL A)[i - 1]? with
 | some a=>(a.r,a.n)
 | none=>(0,0)
def elemsP (A:List AtV) (a b:Nat):List IdT:=(((shL A).drop a).take (b - a)).map fun x=>(x.er,x.en)
theorem elemsP_len {A:List AtV} {a b:Nat} (h:a≤b) (hb:b≤(shL A).length):(elemsP A a b).length=b - a:=by
 unfold elemsP;rw [List.length_map,List.length_take,List.length_drop];omega
theorem elemsP_get {A:List AtV} {a b i:Nat} {x:AtV} (hx:(shL A)[a+i]?=some x) (hi:i < b - a):(elemsP A a b)[i]?=some (x.er,x.en):=by
 unfold elemsP
 rw [List.getElem?_map,List.getElem?_take,if_pos hi,List.getElem?_drop,hx];rfl
section
variable {ro:Nat→Option (List AVal)} {h:AHeap} {s:Nat} {D:CV} {O:Nat→Prop}
theorem panchor_ev (C:CSt h s O D) {i:Nat} (hi:i≤(shL D.A).length) (hl:i < 2 ^ 62) {Q:AVal→AHeap→Prop} (hq:∀h',Old h h'→Q (idA (ancP D.A i).1 (ancP D.A i).2) h'):Ev (cfgR ro) 61 [.ptr s 0,.int .i64 i] h Q:=by
 refine Ev.wp rfl rfl Tryz.func61 rfl ?_
 by_cases h0:i=0
 · subst h0
   have:=hq h (Old.refl h)
   simp only [idA]at this
   simp -implicitDefEqProofs [Tryz.f61]
   exact this
 · have w1:IntKind.i64.wrap ((i:Int) - 1)=((i - 1:Nat):Int):=by rw [w64 (by omega) (by omega)];omega
   have d0:¬((i:Int)=0):=by omega
   simp -implicitDefEqProofs [Tryz.f61,d0,h0,w1]
   refine cat_ev (i:=((i - 1:Nat):Int)) C (fun k a h' hk o ha=>?_) (fun hn=>by omega)
   have hk':k=i - 1:=by omega
   subst hk'
   have hp:ancP D.A i=(a.r,a.n):=by unfold ancP;rw [if_neg h0,ha]
   have:=hq h' o
   rw [hp]at this
   simp only [idA]at this
   simp -implicitDefEqProofs [AtV.cells]
   refine keyID_ev (c:=a.clock) (r:=a.r) (n:=a.n) ?_
   simp -implicitDefEqProofs [idA]
   exact this
theorem pspans_ev (C:CSt h s O D) {a b:Nat} (hab:a≤b) (hb:b≤(shL D.A).length) (hl:b - a < 2 ^ 30) (hl2:b < 2 ^ 62) (hid:∀x∈elemsP D.A a b,x.2 < 2 ^ 30) {Q:AVal→AHeap→Prop} (hq:∀v' h',Old h h'→Mine h h' 3 ((ofIds (elemsP D.A a b)).map snc) v'→Q v' h'):
 Ev (cfgR ro) 62 [.ptr s 0,.int .i64 a,.int .i64 b] h Q:=by
 have hel:=elemsP_len hab hb
 refine Ev.wp rfl rfl Tryz.func62 rfl ?_
 have hmk:makeSliceR Tryz.prog h 113 (.int .i64 0) (.int .i64 ((b - a:Nat):Int))=.ok (.sl h.next 0 0,h.push (.row 2 false (reps (b - a) [.int .u16 0,.int .u32 0]))):=by
  have hi:∃i,infoR Tryz.prog 55=.ok i∧i.size=2∧i.bytes=8:=⟨_,rfl,by kernel_rfl,by kernel_rfl⟩
  obtain⟨i,i1,i2,i3⟩:=hi
  have w0:IntKind.i64.wrap 0=0:=by decide
  have w1:IntKind.i64.wrap ((b - a:Nat):Int)=((b - a:Nat):Int):=w64 (by omega) (by omega)
  unfold makeSliceR
  simp only [el113,Res.ok_bind,i1,i2,i3,w0,w1]
  rw [if_pos ⟨trivial,trivial,by omega,by omega,by omega,by omega⟩]
  simp
 have w0:IntKind.i64.wrap ((b:Int) - (a:Int))=((b - a:Nat):Int):=by rw [w64 (by omega) (by omega)];omega
 obtain⟨H,hH⟩:∃H,H=h.push (.row 2 false (reps (b - a) [.int .u16 0,.int .u32 0])):=⟨_,rfl⟩
 have o1:Old h H:=by rw [hH];exact(Old.refl h).push _
 have k0:CapS H h.next 2 (b - a) []:=⟨by rw [hH];simp,by simp,Nat.zero_le _,_,by rw [hH,get_push_next],by simp [reps],by simp⟩
 simp -implicitDefEqProofs [Tryz.f62,w0,hmk]
 rw [←hH]
 obtain⟨I,hI⟩:∃I:Nat→List AVal→AHeap→Prop,I=fun m env h'=>Old h h'∧∃(i:Nat),i+m=b - a∧CapS h' h.next 2 (b - a) (((elemsP D.A a b).take i).map idc)∧
  env=(.ptr s 0 :: .dead :: .int .i64 b :: .dead :: .dead :: .dead :: .dead :: .sl h.next 0 i :: .int .i64 ((a+i:Nat):Int) :: .dead :: .dead :: .dead :: .dead :: .dead :: .dead :: .dead :: .dead :: .dead :: .dead :: .dead :: .dead :: .dead :: .dead :: .dead :: .dead :: .dead :: .dead :: .dead :: .dead :: .dead :: .dead :: .dead :: .dead :: .dead :: []):=⟨_,rfl⟩
 refine loop_of I ?_ (b - a) (by rw [hI];exact⟨o1,0,by omega,k0,rfl⟩)
 intro m env h' hi
 rw [hI]at hi
 obtain⟨oo,i,him,kk,rfl⟩:=hi
 by_cases hlt:i < b - a
 · have w1:IntKind.i64.wrap (((a+i:Nat):Int)+1)=((a+(i+1):Nat):Int):=by rw [w64 (by omega) (by omega)];omega
   have hti:((elemsP D.A a b).take i).length=i:=by rw [List.length_take,hel];omega
   have d1:((a+i:Nat):Int) < (b:Int):=by omega
   obtain⟨ai,hai⟩:∃ai,ai=a+i:=⟨_,rfl⟩
   rw [←hai]at w1 d1 ⊢
   have d1':ai < b:=by omega
   simp -implicitDefEqProofs [d1',same_self]
   refine cat_ev (C.old oo) (fun k x h2 hk o2 hx=>?_) (fun hn=>by omega)
   have hk':k=a+i:=by omega
   subst hk'
   have hgi:=elemsP_get hx hlt
   have htk:(elemsP D.A a b).take (i+1)=(elemsP D.A a b).take i++[(x.er,x.en)]:=by
    obtain⟨hl2,e2⟩:=List.getElem?_eq_some_iff.1 hgi
    rw [List.take_succ_eq_append_getElem hl2,e2]
   have op:Old h2 (h2.push (.row 2 false [.int .u16 x.er,.int .u32 x.en])):=(Old.refl h2).push _
   have oa:=(oo.trans o2).trans op
   have ka:=kk.keep (h':=h2.push (.row 2 false [.int .u16 x.er,.int .u32 x.en])) ((o2.trans op).2 _ kk.low) (o2.trans op).1
   obtain⟨y,a1,a2⟩:=ka.app (b:=8) (e:=[.int .u16 x.er,.int .u32 x.en]) (by rw [List.length_map,hti];exact hlt) rfl
   rw [List.length_map,hti]at a1
   simp -implicitDefEqProofs [AtV.cells,buildSliceR,reps,a1,w1,same_self]
   exact .mk (m:=m - 1) (by omega) (by rw [hI];exact⟨oa.set (Nat.le_refl _) _,i+1,by omega,by rw [htk,List.map_append];exact a2,rfl⟩)
 · have hie:i=b - a:=by omega
   subst hie
   rw [List.take_of_length_le (by omega)]at kk
   have d1:¬(a+(b - a) < b):=by omega
   have hsl:Sl (cfgR ro) h' 2 (.sl h.next 0 (b - a)) ((elemsP D.A a b).map idc):=by
    have:=kk.sl (c:=cfgR ro)
    rw [List.length_map,hel]at this
    exact this
   obtain⟨ai,hai⟩:∃ai,ai=a+(b - a):=⟨_,rfl⟩
   rw [←hai]at d1 ⊢
   simp -implicitDefEqProofs [d1]
   refine of_ev hsl (by rw [hel];exact hl) hid (fun v' h2 o2 m2=>?_)
   simp -implicitDefEqProofs
   obtain⟨m3,m4⟩:=m2
   exact hq v' h2 (oo.trans o2) ⟨m3,m4.imp_right fun⟨q,fz,g0,g1,g2⟩=>⟨q,fz,g0,Nat.le_trans oo.1 g1,g2⟩⟩
theorem make_ins_ev (C:CSt h s O D) {e:Ed} {n i:Nat} (he:e.kind=1) (ha:e.at_=i) (hi:i≤(shL D.A).length) (hl:i < 2 ^ 62) {Q:AVal→AHeap→Prop} (hq:∀h',Old h h'→Q (opA 1 (ancP D.A i) n e.text .nils 0) h'):Ev (cfgR ro) 15 [.ptr s 0,.agg e.cells,.int .u32 n] h Q:=by
 refine Ev.wp rfl rfl Tryz.func15 rfl ?_
 simp -implicitDefEqProofs [Tryz.f15,Ed.cells,he,ha]
 refine panchor_ev C hi hl (fun h' o=>?_)
 have:=hq h' o
 simp only [opA]at this
 simp -implicitDefEqProofs [idA,same_self]
 exact this
theorem make_del_ev (C:CSt h s O D) {e:Ed} {n a b:Nat} (he:e.kind=2) (ha:e.at_=a) (hto:e.to_=b) (hab:a≤b) (hb:b≤(shL D.A).length) (hl:b - a < 2 ^ 30) (hl2:b < 2 ^ 62) (hid:∀x∈elemsP D.A a b,x.2 < 2 ^ 30) {Q:AVal→AHeap→Prop}
 (hq:∀v' h',Old h h'→Mine h h' 3 ((ofIds (elemsP D.A a b)).map snc) v'→Q (opA 2 (0,0) 0 [] v' 0) h'):Ev (cfgR ro) 15 [.ptr s 0,.agg e.cells,.int .u32 n] h Q:=by
 refine Ev.wp rfl rfl Tryz.func15 rfl ?_
 simp -implicitDefEqProofs [Tryz.f15,Ed.cells,he,ha,hto]
 refine pspans_ev C hab hb hl hl2 hid (fun v' h' o m=>?_)
 have:=hq v' h' o m
 simp only [opA]at this
 obtain⟨m3,m4⟩:=m
 rcases m4 with ⟨_,rfl⟩ | ⟨q,fz,rfl,_⟩
 · simp -implicitDefEqProofs [same_self]
   exact this
 · simp -implicitDefEqProofs [same_self]
   simpa using this
theorem make_mov_ev (C:CSt h s O D) {e:Ed} {n i a b:Nat} (he:e.kind=3) (hd:e.dest=i) (hi:i≤(shL D.A).length) (hli:i < 2 ^ 62) (ha:e.at_=a) (hto:e.to_=b) (hab:a≤b) (hb:b≤(shL D.A).length) (hl:b - a < 2 ^ 30) (hl2:b < 2 ^ 62) (hid:∀x∈elemsP D.A a b,x.2 < 2 ^ 30) {Q:AVal→AHeap→Prop}
 (hq:∀v' h',Old h h'→Mine h h' 3 ((ofIds (elemsP D.A a b)).map snc) v'→Q (opA 3 (ancP D.A i) n [] v' 0) h'):Ev (cfgR ro) 15 [.ptr s 0,.agg e.cells,.int .u32 n] h Q:=by
 refine Ev.wp rfl rfl Tryz.func15 rfl ?_
 simp -implicitDefEqProofs [Tryz.f15,Ed.cells,he,ha,hto,hd]
 refine panchor_ev C hi hli (fun h1 o1=>?_)
 simp -implicitDefEqProofs [idA,same_self]
 refine pspans_ev (C.old o1) hab hb hl hl2 hid (fun v' h' o m=>?_)
 obtain⟨m3,m4⟩:=m
 have m5:Mine h h' 3 ((ofIds (elemsP D.A a b)).map snc) v':=⟨m3,m4.imp_right fun⟨q,fz,g0,g1,g2⟩=>⟨q,fz,g0,Nat.le_trans o1.1 g1,g2⟩⟩
 have:=hq v' h' (o1.trans o) m5
 simp only [opA]at this
 rcases m4 with ⟨_,rfl⟩ | ⟨q,fz,rfl,_⟩
 · simp -implicitDefEqProofs [same_self]
   exact this
 · simp -implicitDefEqProofs [same_self]
   simpa using this
end
end Go.Proofs.YtlhlbamcgopiiaaGreatDoor
set_option linter.all false
set_option maxRecDepth 100000
set_option maxHeartbeats 4000000
namespace Go.Proofs.YtlhlbamcgopiiaaGreatDoor
open Go Go.RowKit Go.Proofs
theorem filter_at {α:Type} {f:α→Bool}:∀{A:List α} {j:Nat} {a:α},(A.filter f)[j]?=some a→∃k,A[k]?=some a∧f a=true∧(A.take k).filter f=(A.filter f).take j∧(A.drop (k+1)).filter f=(A.filter f).drop (j+1)
 | [],j,a,h=>by simp at h
 | b :: A,j,a,h=>by
  by_cases c:f b=true
  · rw [List.filter_cons,if_pos c]at h
    cases j with
    | zero=>
     simp at h
     subst h
     exact⟨0,rfl,c,by simp,by simp [List.filter_cons,c]⟩
    | succ j=>
     obtain⟨k,h1,h2,h3,h4⟩:=filter_at (j:=j) (by simpa using h)
     exact⟨k+1,h1,h2,by simp [List.filter_cons,c,h3],by simp [List.filter_cons,c,h4]⟩
  · rw [List.filter_cons,if_neg c]at h
    obtain⟨k,h1,h2,h3,h4⟩:=filter_at h
    exact⟨k+1,h1,h2,by simp [List.filter_cons,c,h3],by simp [List.filter_cons,c,h4]⟩
variable {P Pn:IdT→Prop} {N K T:Nat} {D:CV}
theorem PI.atIx (h:PI P Pn N K T D) {k:Nat} {a:AtV} (ha:D.A[k]?=some a):atIx D.A a.r a.n=some k:=atIx_at' h.ci.nd ha
theorem PI.anc (h:PI P Pn N K T D) {i:Nat} (hi:i≤(shL D.A).length):∃p,posA D.A (ancP D.A i).1 (ancP D.A i).2=some p∧shL (D.A.take p)=(shL D.A).take i∧shL (D.A.drop p)=(shL D.A).drop i∧(ancP D.A i).2 < N+1:=by
 by_cases h0:i=0
 · subst h0
   refine⟨0,?_,by simp [shL],by simp,by unfold ancP;simp⟩
   unfold ancP posA;simp
 · obtain⟨a,ha⟩:∃a,(shL D.A)[i - 1]?=some a:=⟨_,List.getElem?_eq_getElem (by omega)⟩
   obtain⟨k,k1,k2,k3,k4⟩:=filter_at ha
   have e:ancP D.A i=(a.r,a.n):=by unfold ancP;rw [if_neg h0,ha]
   obtain⟨a1,a2,_⟩:=h.at_ a (List.mem_of_getElem? k1)
   have hkl:=(List.getElem?_eq_some_iff.1 k1).1
   refine⟨k+1,?_,?_,?_,by rw [e];show a.n < _;omega⟩
   · rw [e]
     unfold posA
     rw [if_neg (by show ¬(a.r=0∧a.n=0);omega)]
     show(Go.Proofs.YtlhlbamcgopiiaaGreatDoor.atIx D.A a.r a.n).map (· +1)=_
     rw [h.atIx k1];rfl
   · obtain⟨hl,e2⟩:=List.getElem?_eq_some_iff.1 k1
     unfold shL at ha ⊢
     rw [List.take_succ_eq_append_getElem hl,e2,List.filter_append,k3,List.filter_cons,k2]
     have:i=i - 1+1:=by omega
     obtain⟨hl2,e3⟩:=List.getElem?_eq_some_iff.1 ha
     rw [this,List.take_succ_eq_append_getElem hl2,e3];rfl
   · rw [show i=i - 1+1 by omega];exact k4
theorem putG_newest {A:List AtV} {x:IdT} {r:RunV} {p:Nat} (hp:posA A x.1 x.2=some p) (h:∀a∈A,¬klt r.key a.key):putG A x r=A.take p++(atomsOf r++A.drop p):=by
 unfold putG grA
 rw [hp,Option.getD_some]
 have hd:∀B:List AtV,(∀a∈B,¬klt r.key a.key)→B.takeWhile (fun z=>decide (klt r.key z.key))=[]∧B.dropWhile (fun z=>decide (klt r.key z.key))=B:=by
  intro B hB
  cases B with
  | nil=>exact⟨rfl,rfl⟩
  | cons b B=>have:=hB b (by simp);simp [this]
 obtain⟨h1,h2⟩:=hd (A.drop p) (fun a ha=>h a (List.mem_of_mem_drop ha))
 rw [h1,h2];rfl
theorem PI.newest (h:PI P Pn N K T D) {K':Nat} (hK:K≤K') {r:RunV} (hr:r.key=(K',1,N)):∀a∈D.A,¬klt r.key a.key:=by
 intro a ha hk
 obtain⟨a1,a2,a3,_⟩:=h.at_ a ha
 rw [hr]at hk
 unfold klt AtV.key at hk
 simp only at hk
 omega
theorem insN_A (D:CV) (t:TxV) (n:Nat):∀i,(insN D t n i).A=D.A
 | 0=>rfl
 | i+1=>by
  show(touchD (insN D t n i) t.id (t.r,n+i)).A=_
  rw [(touchD_sp _ _ _).2.2.2.1];exact insN_A D t n i
theorem insN_elems (D:CV) (t:TxV) (n:Nat):∀i,(insN D t n i).elems=D.elems+i
 | 0=>rfl
 | i+1=>by
  show(insN D t n i).elems+1=_
  rw [insN_elems D t n i];omega
theorem atomsOf_at {r:RunV} {i:Nat} {b:UInt8} (h:r.text[i]?=some b):(⟨r.clock,r.r,r.n+i,r.er,r.en+i,b,r.shown⟩:AtV)∈atomsOf r:=by
 refine List.mem_of_getElem? (i:=i) ?_
 rw [atomsOf_get,h];rfl
theorem PI.insert (h:PI (fun _=>False) (fun _=>False) N K T D) {t:TxV} {tx:Str} {i:Nat} (hr:t.r=1) (hK:K≤t.clock) (hN:1≤N) (hp:plain tx=true) (hpos:0 < tx.length) (hlen:tx.length≤1024) (hb:N+tx.length≤2 ^ 28) (hT:T+tx.length < 2 ^ 29) (hi:i≤(shL D.A).length) (hd:∃d,lookI D.deeds t.id=some d):
 (∃p,posA D.A (ancP D.A i).1 (ancP D.A i).2=some p)∧(ancP D.A i).2 < 2 ^ 32∧RunOk ⟨t.clock,t.r,N,t.r,N,tx,true⟩∧hitA D.A ⟨t.clock,t.r,N,t.r,N,tx,true⟩=false∧InsR D t.id t.r N 0 tx.length∧
 PI (fun _=>False) (fun _=>False) (N+tx.length) t.clock (T+tx.length) (insD D t (ancP D.A i) N tx)∧shownA (insD D t (ancP D.A i) N tx).A=(shownA D.A).take i++tx++(shownA D.A).drop i∧(insD D t (ancP D.A i) N tx).elems=D.elems+tx.length∧(insD D t (ancP D.A i) N tx).A.length=D.A.length+tx.length:=by
 obtain⟨p,p1,p2,p3,p4⟩:=h.anc hi
 obtain⟨r,seq,K',user⟩:=t
 simp only at hr hK
 subst hr
 obtain⟨rr,hrr⟩:∃rr:RunV,rr=⟨K',1,N,1,N,tx,true⟩:=⟨_,rfl⟩
 have hhit:hitA D.A rr=false:=hit_new fun a ha=>by rw [hrr];exact(h.at_ a ha).2.1
 have hput:=putG_newest (r:=rr) p1 (h.newest hK (by rw [hrr];rfl))
 have R:InsR D (1,seq) 1 N 0 tx.length:=by
  obtain⟨d,hd⟩:=hd
  refine⟨fun j _ hj=>⟨?_,?_⟩,⟨d,hd,?_⟩,?_,?_⟩
  · cases hl:lookI D.lives (1,N+j)with
    | none=>rfl
    | some l=>have h5:N+j < N:=(h.lv _ l hl).2.1;omega
  · cases hs:spOf D (1,N+j)with
    | nil=>rfl
    | cons x l=>
     obtain⟨a,ha,_,a2⟩:=h.ci.sp (1,N+j) x (by rw [hs];simp)
     have:=(h.at_ a ha).2.2.2.2.2.2
     have he:a.en=N+j:=congrArg Prod.snd a2
     omega
  · have:=h.dd _ d hd;omega
  · have:=h.ns;omega
  · have:=h.el;omega
 obtain⟨D1,hD1⟩:∃D1,D1={ D with A:=putG D.A (ancP D.A i) rr }:=⟨_,rfl⟩
 have hI1:=h.insPut (x:=ancP D.A i) hp hK hN
 rw [←hrr,←hD1]at hI1
 have R1:InsR D1 (1,seq) 1 N 0 tx.length:=by rw [hD1];exact⟨R.new,R.deed,R.nsp,R.el⟩
 have steps:∀j,j≤tx.length→PI (fun _=>False) (fun e=>∃i,j≤i∧i < tx.length∧e=(1,N+i)) (N+tx.length) K' (T+j) (insN D1 ⟨1,seq,K',user⟩ N j)∧InsR (insN D1 ⟨1,seq,K',user⟩ N j) (1,seq) 1 N j tx.length:=by
  intro j
  induction j with
  | zero=>
   intro _
   refine⟨⟨hI1.ci.mono (fun e he=>he) (fun e=>⟨?_,?_⟩),hI1.at_,hI1.own,hI1.lv,hI1.off,hI1.dd,hI1.sl,hI1.inc,hI1.ns,hI1.el,hI1.len⟩,R1⟩
   · rintro(h1 | ⟨a,ha,rfl⟩)
     · exact h1.elim
     · obtain⟨k,hk,_,e⟩:=atomsOf_mem ha
       rw [hrr]at hk e
       exact⟨k,Nat.zero_le _,hk,by rw [e];rfl⟩
   · rintro⟨k,_,hk,rfl⟩
     refine .inr ⟨⟨K',1,N+k,1,N+k,tx[k],true⟩,?_,rfl⟩
     have:=atomsOf_at (r:=rr) (i:=k) (b:=tx[k]) (by rw [hrr];exact List.getElem?_eq_getElem hk)
     rw [hrr]at this ⊢
     exact this
  | succ j ih=>
   intro hj
   obtain⟨I,R⟩:=ih (by omega)
   have hA:(insN D1 ⟨1,seq,K',user⟩ N j).A=D1.A:=insN_A _ _ _ _
   have hmem:∀a,a∈D1.A↔a∈D.A∨a∈atomsOf rr:=fun a=>by rw [hD1];exact putG_mem
   have hin:=atomsOf_at (r:=rr) (i:=j) (b:=tx[j]) (by rw [hrr];exact List.getElem?_eq_getElem hj)
   obtain⟨a0,ha0⟩:∃a0:AtV,a0=⟨K',1,N+j,1,N+j,tx[j],true⟩:=⟨_,rfl⟩
   have hin2:a0∈atomsOf rr:=by
    have h5:=hin
    rw [hrr]at h5 ⊢
    rw [ha0];exact h5
   have S:=I.insStep (k:=(1,seq)) (m:=N+j) (a0:=a0) (by rw [hA,hmem];exact .inr hin2) (by rw [ha0];rfl) (by rw [ha0];rfl) (by rw [ha0]) (fun a ha he=>?_) (R.new j (Nat.le_refl _) hj).2
   · refine⟨⟨S.ci.mono (fun e he=>he) (fun e=>⟨?_,?_⟩),S.at_,S.own,S.lv,S.off,S.dd,S.sl,S.inc,S.ns,S.el,S.len⟩,R.step (t:=⟨1,seq,K',user⟩) hj⟩
     · rintro⟨⟨k,k1,k2,rfl⟩,k3⟩
       refine⟨k,?_,k2,rfl⟩
       by_cases c:k=j
       · subst c;exact(k3 rfl).elim
       · omega
     · rintro⟨k,k1,k2,rfl⟩
       exact⟨⟨k,by omega,k2,rfl⟩,fun e=>by simp at e;omega⟩
   · rw [hA,hmem]at ha
     have hen:a.en=N+j:=congrArg Prod.snd he
     rcases ha with h1 | h1
     · have:=(h.at_ a h1).2.2.2.2.2.2;omega
     · obtain⟨k,hk,hb,e⟩:=atomsOf_mem h1
       rw [hrr]at hb e
       simp only at hb e
       have hkj:k=j:=by rw [e]at hen;simp only at hen;omega
       subst hkj
       have hbb:a.b=tx[k]:=by rw [List.getElem?_eq_getElem hj]at hb;exact(Option.some.inj hb).symm
       rw [e,ha0,hbb]
 obtain⟨I,_⟩:=steps tx.length (Nat.le_refl _)
 have hfin:insD D ⟨1,seq,K',user⟩ (ancP D.A i) N tx=insN D1 ⟨1,seq,K',user⟩ N tx.length:=by rw [hD1,hrr];rfl
 have hA:(insD D ⟨1,seq,K',user⟩ (ancP D.A i) N tx).A=D.A.take p++(atomsOf rr++D.A.drop p):=by rw [hfin,insN_A,hD1];exact hput
 refine⟨⟨p,p1⟩,by omega,?_,by rw [←hrr];exact hhit,R,?_,?_,?_,?_⟩
 · exact⟨hpos,by show tx.length≤1024;omega,hN,by show N+tx.length≤_;omega,hN,by show N+tx.length≤_;omega⟩
 · rw [hfin]
   exact⟨I.ci.mono (fun e he=>he) (fun e=>⟨fun⟨k,k1,k2,_⟩=>by omega,fun h=>h.elim⟩),I.at_,I.own,I.lv,I.off,I.dd,I.sl,I.inc,I.ns,I.el,I.len⟩
 · rw [hA,shownA_append,shownA_append]
   have e1:shownA (D.A.take p)=(shownA D.A).take i:=by
    have:=congrArg (List.map (·.b)) p2
    rw [List.map_take]at this
    exact this
   have e2:shownA (D.A.drop p)=(shownA D.A).drop i:=by
    have:=congrArg (List.map (·.b)) p3
    rw [List.map_drop]at this
    exact this
   have e3:shownA (atomsOf rr)=tx:=by rw [hrr];exact shownA_run _ _ _ _ _ _ _
   rw [e1,e2,e3,List.append_assoc]
 · rw [hfin,insN_elems,hD1]
 · rw [hA,List.length_append,List.length_append,atomsOf_len,hrr,List.length_take,List.length_drop]
   simp only [];omega
end Go.Proofs.YtlhlbamcgopiiaaGreatDoor
set_option linter.all false
set_option maxRecDepth 100000
set_option maxHeartbeats 4000000
namespace Go.Proofs.YtlhlbamcgopiiaaGreatDoor
open Go Go.RowKit Go.Proofs
def er (a:AtV):AtV:={ a with shown:=false }
instance (D:CV) (a:AtV):Decidable (okF D a):=by unfold okF;infer_instance
theorem renewD_er (D:CV) (e:IdT) (hn:(D.A.map AtV.id).Nodup):(renewD D e).A.map er=D.A.map er:=by
 have hA:(renewD D e).A=D.A.map (flagS (yesD D e) (spOf D e)):=showAll_eq _ _ _ hn
 rw [hA,List.map_map];rfl
theorem nodup_of_inj {α β γ:Type} {f:α→β} {g:α→γ}:∀{l:List α},(l.map g).Nodup→(∀x∈l,∀y∈l,f x=f y→g x=g y)→(l.map f).Nodup
 | [],_,_=>List.nodup_nil
 | a :: l,h,hi=>by
  rw [List.map_cons,List.nodup_cons]at h ⊢
  refine⟨fun hm=>?_,nodup_of_inj h.2 (fun x hx y hy=>hi x (by simp [hx]) y (by simp [hy]))⟩
  obtain⟨y,hy,e⟩:=List.mem_map.1 hm
  exact h.1 (List.mem_map.2 ⟨y,hy,hi y (by simp [hy]) a (by simp) e⟩)
variable {P Pn:IdT→Prop} {N K T:Nat} {D D':CV}
abbrev PF:=PI (fun _=>False) (fun _=>False)
theorem PF.ok (h:PF N K T D) {a:AtV} (ha:a∈D.A):a.shown=true↔okF D a:=h.ci.F a ha id id
theorem PF.shL (h:PF N K T D):shL D.A=D.A.filter fun a=>decide (okF D a):=by
 unfold Go.Proofs.YtlhlbamcgopiiaaGreatDoor.shL
 refine List.filter_congr fun a ha=>?_
 have:=h.ok ha
 by_cases c:okF D a
 · rw [decide_eq_true c];exact this.2 c
 · rw [decide_eq_false c]
   cases hs:a.shown with
   | false=>rfl
   | true=>exact(c (this.1 hs)).elim
theorem PF.elems_nd (h:PF N K T D):((Go.Proofs.YtlhlbamcgopiiaaGreatDoor.shL D.A).map AtV.elem).Nodup:=by
 refine nodup_of_inj (g:=AtV.id) ?_ (fun x hx y hy e=>?_)
 · unfold Go.Proofs.YtlhlbamcgopiiaaGreatDoor.shL
   exact h.ci.nd.sublist (List.Sublist.map _ List.filter_sublist)
 · unfold Go.Proofs.YtlhlbamcgopiiaaGreatDoor.shL at hx hy
   rw [List.mem_filter]at hx hy
   have h1:=(h.ok hx.1).1 hx.2
   have h2:=(h.ok hy.1).1 hy.2
   have:x.key=y.key:=by rw [h1.2,h2.2,e]
   rw [←key_id,←key_id,this]
theorem cutL {α:Type} {f:α→IdT} {X Y Z:List α} (nd:((X++(Y++Z)).map f).Nodup):X.filter (fun x=>decide (f x ∉ Y.map f))=X∧Y.filter (fun x=>decide (f x ∉ Y.map f))=[]∧Z.filter (fun x=>decide (f x ∉ Y.map f))=Z:=by
 rw [List.map_append,List.map_append,List.nodup_append,List.nodup_append]at nd
 obtain⟨_,⟨_,_,h2⟩,h1⟩:=nd
 refine⟨?_,?_,?_⟩
 · rw [List.filter_eq_self]
   intro x hx
   exact decide_eq_true fun hm=>h1 (f x) (List.mem_map.2 ⟨x,hx,rfl⟩) (f x) (List.mem_append.2 (.inl hm)) rfl
 · rw [List.filter_eq_nil_iff]
   intro x hx
   simp only [decide_eq_true_iff,Classical.not_not]
   exact List.mem_map.2 ⟨x,hx,rfl⟩
 · rw [List.filter_eq_self]
   intro x hx
   exact decide_eq_true fun hm=>h2 (f x) hm (f x) (List.mem_map.2 ⟨x,hx,rfl⟩) rfl
structure DelR (D D':CV) (k:IdT) (S:List IdT):Prop where
 A:D'.A.map er=D.A.map er
 sp:∀e,spOf D' e=spOf D e
 lv:∀e,e ∉ S→lookI D'.lives e=lookI D.lives e
 gn:∀e∈S,∃l,lookI D'.lives e=some l∧l.gone≠[]
 dd:∃d,lookI D'.deeds k=some d
 el:D'.elems=D.elems
theorem PI.spn (h:PI P Pn N K T D) {e:IdT} {x:Sp} (hx:x∈spOf D e):x.1.2.2 < N∧x.1.1≤K∧x.1.2.1=1:=by
 obtain⟨a,ha,h1,_⟩:=h.ci.sp e x hx
 obtain⟨a1,a2,a3,_⟩:=h.at_ a ha
 rw [←h1];exact⟨a2,a3,a1⟩
theorem letD_life {D:CV} {k e:IdT} {l:Lf} (h:lookI D.lives e=some l):∀e',lookI (letD (touchD D k e) k e).lives e'=if e'=e then some { l with gone:=l.gone++[k] } else lookI D.lives e':=by
 intro e'
 unfold letD
 rw [touchD_lives,h]
 simp only
 rw [look_put]
theorem letD_sp (D:CV) (k e:IdT):(letD (touchD D k e) k e).A=D.A∧(letD (touchD D k e) k e).sp=D.sp∧(letD (touchD D k e) k e).deeds=(touchD D k e).deeds∧(letD (touchD D k e) k e).elems=D.elems:=by
 obtain⟨t1,t2,t3,t4,t5⟩:=touchD_sp D k e
 unfold letD;split <;> exact⟨t4,t1,rfl,t3⟩
theorem del_run {k:IdT} (hN:N≤2 ^ 28):∀(l:List IdT) (D':CV) (T':Nat) (S:List IdT),PF N K T' D'→DelR D D' k S→(∀e∈l,lookI D.lives e≠none)→T'+l.length < 2 ^ 29→
 DelOk D' k l∧PF N K (T'+l.length) (delL D' k l)∧DelR D (delL D' k l) k (S++l)
 | [],D',T',S,I,R,_,_=>⟨trivial,I,by rw [List.append_nil];exact R⟩
 | e :: l,D',T',S,I,R,hl,hT=>by
  rw [List.length_cons]at hT
  obtain⟨lf,hlf⟩:∃lf,lookI D'.lives e=some lf:=by
   by_cases c:e∈S
   · obtain⟨lf,h1,_⟩:=R.gn e c;exact⟨lf,h1⟩
   · rw [R.lv e c]
     cases h1:lookI D.lives e with
     | none=>exact(hl e (by simp) h1).elim
     | some lf=>exact⟨lf,rfl⟩
  obtain⟨d,hd⟩:=R.dd
  have hg:=(I.lv e lf hlf).2.2
  have hdl:=I.dd k d hd
  obtain⟨p1,p2,p3,p4⟩:=letD_sp D' k e
  have hsp:∀e',spOf (letD (touchD D' k e) k e) e'=spOf D' e':=fun e'=>by unfold spOf;rw [p2]
  have hlife:=letD_life (k:=k) hlf
  have X:StepX D' k e:=by
   refine⟨⟨lf,hlf,by omega⟩,⟨d,hd,by omega⟩,⟨?_,fun x hx=>?_,fun l2 h2=>?_⟩⟩
   · rw [hsp];have:=I.sl e;omega
   · rw [hsp]at hx;have:=(I.spn hx).1;omega
   · rw [hlife,if_pos rfl]at h2
     cases h2
     simp;omega
  have I2:PF N K (T'+1) (delStep D' k e):=I.del id
  have R2:DelR D (delStep D' k e) k (S++[e]):=by
   refine⟨?_,fun e'=>(hsp e').trans (R.sp e'),fun e' he=>?_,fun e' he=>?_,?_,?_⟩
   · show(renewD (letD (touchD D' k e) k e) e).A.map er=_
     rw [renewD_er _ _ (by rw [p1];exact I.ci.nd),p1];exact R.A
   · show lookI (letD (touchD D' k e) k e).lives e'=_
     rw [hlife,if_neg (fun c=>he (by simp [c]))]
     exact R.lv e' (fun c=>he (by simp [c]))
   · show ∃l,lookI (letD (touchD D' k e) k e).lives e'=some l∧_
     rw [hlife]
     by_cases c:e'=e
     · rw [if_pos c];exact⟨_,rfl,by simp⟩
     · rw [if_neg c]
       refine R.gn e' ?_
       rcases List.mem_append.1 he with h1 | h1
       · exact h1
       · simp at h1;exact(c h1).elim
   · show ∃d,lookI (letD (touchD D' k e) k e).deeds k=some d
     rw [p3]
     obtain⟨d',e1,_⟩:=touchD_deed (e:=e) hd
     exact⟨d',e1⟩
   · show(letD (touchD D' k e) k e).elems=_
     rw [p4];exact R.el
  obtain⟨a1,a2,a3⟩:=del_run hN l (delStep D' k e) (T'+1) (S++[e]) I2 R2 (fun e' he'=>hl e' (by simp [he'])) (by omega)
  refine⟨⟨X,a1⟩,?_,?_⟩
  · have e1:T'+1+l.length=T'+(e :: l).length:=by simp;omega
    rw [e1]at a2;exact a2
  · rw [List.append_assoc]at a3;exact a3
theorem gone_le {k:Nat} (h:∀k,offD D k=false) {e:IdT} {l:Lf} (hl:lookI D.lives e=some l):countD D e=1 - (l.gone.length:Int):=by
 unfold countD
 rw [hl]
 have hf:l.gone.filter (fun k=>!offD D k)=l.gone:=List.filter_eq_self.2 fun j _=>by rw [h j];rfl
 simp only [hf]
 rw [h]
 simp
theorem del_text {k:IdT} {S:List IdT} (I:PF N K T D) {N' K' T':Nat} (I':PF N' K' T' D') (R:DelR D D' k S):shownA D'.A=((Go.Proofs.YtlhlbamcgopiiaaGreatDoor.shL D.A).filter (fun a=>decide (a.elem ∉ S))).map (·.b):=by
 have e1:shownA D'.A=((D'.A.map er).filter (fun a=>decide (okF D' a))).map (·.b):=by
  rw [←shL_bytes,I'.shL,List.filter_map,List.map_map];rfl
 rw [e1,R.A,I.shL,List.filter_map,List.map_map,List.filter_filter]
 have e2:D.A.filter ((fun a=>decide (okF D' a)) ∘ er)=D.A.filter (fun a=>decide (a.elem ∉ S) && decide (okF D a)):=by
  refine List.filter_congr fun a ha=>?_
  show decide (okF D' a)=_
  by_cases c:a.elem∈S
  · rw [show decide (a.elem ∉ S)=false from decide_eq_false (fun h=>h c),Bool.false_and]
    obtain⟨l,h1,h2⟩:=R.gn _ c
    refine decide_eq_false fun ho=>?_
    have:=ho.1
    rw [gone_le (k:=0) I'.off h1]at this
    have:0 < l.gone.length:=List.length_pos_iff.2 h2
    omega
  · rw [show decide (a.elem ∉ S)=true from decide_eq_true c,Bool.true_and]
    have:=okF_congr (a:=a) (R.lv _ c) (R.sp _) (fun k=>by rw [I'.off,I.off])
    exact decide_eq_decide.2 this
 rw [e2];rfl
end Go.Proofs.YtlhlbamcgopiiaaGreatDoor
set_option linter.all false
set_option maxRecDepth 100000
set_option maxHeartbeats 4000000
namespace Go.Proofs.YtlhlbamcgopiiaaGreatDoor
open Go Go.RowKit Go.Proofs
theorem byte_own {A:List AtV} (nd:(A.map AtV.id).Nodup) {o:AtV} (ho:o∈A):byteA A o.id=o.b:=by
 obtain⟨i,hi⟩:=List.mem_iff_getElem?.1 ho
 unfold byteA
 rw [show Go.Proofs.YtlhlbamcgopiiaaGreatDoor.atIx A o.id.1 o.id.2=some i from atIx_at' nd hi]
 simp only [hi,Option.map_some,Option.getD_some]
theorem atIx_ids (r n:Nat):∀A:List AtV,Go.Proofs.YtlhlbamcgopiiaaGreatDoor.atIx A r n=(A.map AtV.id).findIdx? fun i=>decide (i=(r,n))
 | []=>rfl
 | a :: A=>by
  have ih:=atIx_ids r n A
  unfold Go.Proofs.YtlhlbamcgopiiaaGreatDoor.atIx at ih ⊢
  rw [List.map_cons,List.findIdx?_cons,List.findIdx?_cons,ih]
  have:decide (a.r=r∧a.n=n)=decide (a.id=(r,n)):=decide_eq_decide.2 ⟨fun h=>Prod.ext h.1 h.2,fun h=>by unfold AtV.id at h;simpa using h⟩
  rw [this]
theorem posA_ids {A A':List AtV} (h:A.map AtV.id=A'.map AtV.id) (r n:Nat):posA A r n=posA A' r n:=by
 unfold posA
 rw [atIx_ids,atIx_ids,h]
theorem er_ids {A A':List AtV} (h:A.map er=A'.map er):A.map AtV.id=A'.map AtV.id:=by
 have e:∀A:List AtV,A.map AtV.id=(A.map er).map AtV.id:=fun A=>by rw [List.map_map];rfl
 rw [e A,e A',h]
def newL (A:List AtV) (K n:Nat):List IdT→List AtV
 | []=>[]
 | e :: l=>⟨K,1,n,e.1,e.2,byteA A e,false⟩ :: newL A K (n+1) l
theorem newL_append (A:List AtV) (K:Nat):∀(a b:List IdT) (n:Nat),newL A K n (a++b)=newL A K n a++newL A K (n+a.length) b
 | [],b,n=>rfl
 | e :: a,b,n=>by
  show _ :: newL A K (n+1) (a++b)=_ :: (newL A K (n+1) a++_)
  rw [newL_append A K a b (n+1),List.length_cons,show n+1+a.length=n+(a.length+1) by omega]
theorem newL_len (A:List AtV) (K:Nat):∀(l:List IdT) (n:Nat),(newL A K n l).length=l.length
 | [],_=>rfl
 | e :: l,n=>by show(newL A K (n+1) l).length+1=_;rw [newL_len A K l];rfl
theorem newL_mem {A:List AtV} {K:Nat}:∀{l:List IdT} {n:Nat} {a:AtV},a∈newL A K n l→∃i e,l[i]?=some e∧a=⟨K,1,n+i,e.1,e.2,byteA A e,false⟩
 | [],_,_,h=>by cases h
 | e :: l,n,a,h=>by
  rcases List.mem_cons.1 h with h | h
  · exact⟨0,e,rfl,h⟩
  · obtain⟨i,e',h1,h2⟩:=newL_mem h
    exact⟨i+1,e',h1,by rw [h2];simp only [AtV.mk.injEq,true_and];exact⟨by omega,trivial⟩⟩
theorem newL_get {A:List AtV} {K:Nat}:∀{l:List IdT} {n i:Nat} {e:IdT},l[i]?=some e→(newL A K n l)[i]?=some ⟨K,1,n+i,e.1,e.2,byteA A e,false⟩
 | [],_,_,_,h=>by simp at h
 | e :: l,n,0,e',h=>by simp at h;subst h;rfl
 | e :: l,n,i+1,e',h=>by
  have:=newL_get (n:=n+1) (i:=i) (e:=e') (by simpa using h) (A:=A) (K:=K)
  show(newL A K (n+1) l)[i]?=_
  rw [this,show n+1+i=n+(i+1) by omega]
theorem newL_er (A:List AtV) (K:Nat):∀(l:List IdT) (n:Nat),(newL A K n l).map er=newL A K n l
 | [],_=>rfl
 | e :: l,n=>by show _ :: (newL A K (n+1) l).map er=_;rw [newL_er A K l];rfl
theorem atF_new {A:List AtV} {K:Nat} (x:IdT):∀(m j n:Nat) (tx:Str),tx=((List.range' j m).map (plusI x)).map (byteA A)→atF K 1 false n x.1 (x.2+j) tx=newL A K n ((List.range' j m).map (plusI x))
 | 0,j,n,tx,h=>by rw [h];rfl
 | m+1,j,n,tx,h=>by
  rw [h,List.range'_succ,List.map_cons,List.map_cons]
  have:=atF_new (A:=A) (K:=K) x m (j+1) (n+1) _ rfl
  show _ :: atF K 1 false (n+1) x.1 (x.2+j+1) _=_ :: newL A K (n+1) _
  rw [←this];rfl
theorem run_new {A:List AtV} {t:TxV} {s:Sn} {n:Nat} (ht:t.r=1) {A':List AtV} (hb:∀e∈idsS s,byteA A' e=byteA A e):atomsOf (movRun A' t s n)=newL A t.clock n (idsS s):=by
 have hx:spanTx A' s=((List.range' 0 s.2).map (plusI s.1)).map (byteA A):=by
  unfold spanTx
  have:idsS s=(List.range' 0 s.2).map (plusI s.1):=by unfold idsS;rw [List.range_eq_range']
  rw [←this]
  exact List.map_congr_left hb
 have:=atF_new (A:=A) (K:=t.clock) s.1 s.2 0 n _ hx
 unfold atomsOf movRun
 simp only [ht]
 unfold idsS
 rw [List.range_eq_range']
 exact this
structure MovR (D0 D':CV) (k:IdT) (K n0 p0:Nat) (L S:List IdT):Prop where
 A:D'.A.map er=(D0.A.take p0).map er++newL D0.A K n0 L++(D0.A.drop p0).map er
 lv:∀e,lookI D'.lives e=lookI D0.lives e
 sp0:∀e,e ∉ S→spOf D' e=spOf D0 e
 sp1:∀(i:Nat) e,S[i]?=some e→spOf D' e=spOf D0 e++[((K,1,n0+i),k)]
 dd:∃d,lookI D'.deeds k=some d
 el:D'.elems=D0.elems
variable {P Pn:IdT→Prop} {N K T:Nat} {D D' D0:CV}
theorem MovR.old {k:IdT} {n0 p0:Nat} {L S:List IdT} (R:MovR D0 D' k K n0 p0 L S) {a:AtV} (ha:a∈D0.A):∃b∈D'.A,er b=er a:=by
 have h2:er a∈D'.A.map er:=by
  rw [R.A,←List.take_append_drop p0 D0.A]at *
  rcases List.mem_append.1 ha with h | h
  · exact List.mem_append.2 (.inl (List.mem_append.2 (.inl (by simpa using List.mem_map.2 ⟨a,h,rfl⟩))))
  · exact List.mem_append.2 (.inr (by simpa using List.mem_map.2 ⟨a,h,rfl⟩))
 obtain⟨b,hb,e⟩:=List.mem_map.1 h2
 exact⟨b,hb,e⟩
theorem best_last (ho:∀k,offD D k=false) {e:IdT} {l:List Sp} {z:Sp} (h:spOf D e=l++[z]) (hi:(spOf D e).Pairwise (fun x y=>klt x.1 y.1)):bestD D e=z:=by
 have step:∀b x:Sp,klt b.1 x.1→bestStep D b x=x:=fun b x hk=>by unfold bestStep;rw [decide_eq_true hk,ho];rfl
 have key:∀(l:List Sp) (b:Sp),(b :: l).Pairwise (fun x y=>klt x.1 y.1)→l.foldl (bestStep D) b=(b :: l).getLast (by simp):=by
  intro l
  induction l with
  | nil=>intro b _;rfl
  | cons x l ih=>
   intro b hp
   rw [List.pairwise_cons]at hp
   rw [List.foldl_cons,step b x (hp.1 x (by simp)),ih x hp.2]
   exact(List.getLast_cons (by simp)).symm
 unfold bestD
 cases hs:spOf D e with
 | nil=>rw [hs]at h;simp at h
 | cons y l'=>
  simp only
  rw [hs]at hi h
  rw [key l' y hi]
  have:(y :: l').getLast?=some z:=by rw [h];simp
  rw [List.getLast?_eq_some_getLast (by simp)]at this
  exact Option.some.inj this
end Go.Proofs.YtlhlbamcgopiiaaGreatDoor
