/-
  A part of the proof of PlanOps, over the seat YtlhlbamcgopiiaaGreatDoor: for every input the law returns true, and the input reads as it did.
-/
import Derived.Test.YtlhlbamcgopiiaaGreatDoorGi
set_option linter.all false
set_option linter.all false
set_option maxRecDepth 100000
set_option maxHeartbeats 4000000
namespace Go.Proofs.YtlhlbamcgopiiaaGreatDoor
open Go Go.RowKit Go.Proofs
variable {zT:List AVal}
section
variable {ro:Nat→Option (List AVal)}
theorem IX.put {h h2:AHeap} {s q i:Nat} {t:Rt RunV} {M:Nat×RunV→Prop} {ix:Nat→List (Nat×RunV)} {ks:List (Nat×AVal)} {a:Nat} {x:RunV} {v':AVal} (S:Sx zT h s (.map q) t M ix) (R:Rok t.items) (hp:(a,x)∈t.items) (hM:¬M (a,x)) (hg:h.get q=some (.map (entA ks)))
 (hlo:∀j k,j < i→((ix x.r).map (·.2.n))[j]?=some k→k < x.n) (hhi:∀j k,i≤j→((ix x.r).map (·.2.n))[j]?=some k→x.n≤k)
 (hpl:PL h2 v' (((ix x.r).map (·.1)).take i++a :: ((ix x.r).map (·.1)).drop i)) (hk:∀o,o < h.next→¬vobj (atK ks x.r) o→h2.get o=h.get o) (hn:h.next≤h2.next) (hv:∀o,vobj v' o→h.next≤o∧o < h2.next):
 ∃ix',Sx zT (h2.set q (.map (entA (putK ks x.r v')))) s (.map q) t (fun p=>M p∨p=(a,x)) ix'∧Stp h (SOwn h s (.map q) t) (h2.set q (.map (entA (putK ks x.r v')))) (SOwn (h2.set q (.map (entA (putK ks x.r v')))) s (.map q) t):=by
 obtain⟨q1,ks',hq,x1,x2,x3,x4,x5⟩:=S.ix.obj.resolve_left (fun e=>by cases e.1)
 cases hq
 rw [hg]at x2;cases entA_inj (AObj.map.inj (Option.some.inj x2))
 have hqv:¬vobj (atK ks x.r) q:=fun e=>(x4 _ _ e).2 rfl
 have keepO:∀o,o < h.next→¬vobj (atK ks x.r) o→o≠q→(h2.set q (.map (entA (putK ks x.r v')))).get o=h.get o:=fun o h1 h2' h3=>by rw [get_set_ne (Ne.symm h3)];exact hk o h1 h2'
 have hI:∀r o,vobj (atK ks r) o→IObj (.map q) h o:=fun r o ho=>⟨q,rfl,.inr ⟨ks,r,hg,ho⟩⟩
 have hIq:IObj (.map q) h q:=⟨q,rfl,.inl rfl⟩
 have hgq:(h2.set q (.map (entA (putK ks x.r v')))).get q=some (.map (entA (putK ks x.r v'))):=get_set_self _ _ _
 have hI2:∀o,IObj (.map q) (h2.set q (.map (entA (putK ks x.r v')))) o→(IObj (.map q) h o∧¬vobj (atK ks x.r) o)∨(h.next≤o∧o < h2.next):=by
  rintro o ⟨q',e,ho⟩
  cases e
  rcases ho with rfl | ⟨ks',r,e1,e2⟩
  · exact .inl ⟨hIq,hqv⟩
  · rw [hgq]at e1
    cases entA_inj (AObj.map.inj (Option.some.inj e1))
    rw [at_put]at e2
    by_cases hr:r=x.r
    · rw [if_pos hr]at e2;exact .inr (hv o e2)
    · rw [if_neg hr]at e2
      exact .inl ⟨hI r o e2,fun e3=>hr (x5 r x.r o e2 e3)⟩
 refine⟨fun r=>if r=x.r then(ix x.r).take i++(a,x) :: (ix x.r).drop i else ix r,⟨?_,⟨fun r p=>?_,fun r=>?_,.inr ⟨q,_,rfl,Nat.lt_of_lt_of_le x1 hn,hgq,fun r=>?_,fun r o ho=>?_,fun r r' o ho ho'=>?_⟩⟩,?_,fun o ho=>?_⟩,hn,fun o ho hno=>?_,fun o ho=>?_⟩
 · obtain⟨⟨s0,hr⟩,h1,h2',h3,h4,h5⟩:=S.rp
   refine⟨⟨s0,?_⟩,At.congr (fun o ho=>?_) h1,h2',h3,Nat.lt_of_lt_of_le h4 hn,fun o ho=>Nat.lt_of_lt_of_le (h5 o ho) hn⟩
   · rw [keepO s h4 (fun e=>(S.sep s (hI _ _ e)).1 rfl) (fun e=>(S.sep q hIq).1 e.symm)];exact hr
   · exact keepO o (h5 o ho) (fun e=>(S.sep o (hI _ _ e)).2 ho) (fun e=>(S.sep q hIq).2 (by rw [←e];exact ho))
 · by_cases hr:r=x.r
   · simp only [if_pos hr]
     have hm:=S.ix.mem x.r p
     rw [←List.take_append_drop i (ix x.r)]at hm
     simp only [List.mem_append,List.mem_cons]at hm ⊢
     constructor
     · rintro(h1 | rfl | h1)
       · have:=hm.1 (.inl h1);exact⟨.inl this.1,by rw [hr];exact this.2⟩
       · exact⟨.inr rfl,hr.symm⟩
       · have:=hm.1 (.inr h1);exact⟨.inl this.1,by rw [hr];exact this.2⟩
     · rintro⟨h1 | rfl,h2'⟩
       · rcases hm.2 ⟨h1,by rw [←hr];exact h2'⟩with h3 | h3
         · exact .inl h3
         · exact .inr (.inr h3)
       · exact .inr (.inl rfl)
   · simp only [if_neg hr]
     rw [S.ix.mem r p]
     constructor
     · rintro⟨h1,h2'⟩;exact⟨.inl h1,h2'⟩
     · rintro⟨h1 | rfl,h2'⟩
       · exact⟨h1,h2'⟩
       · exact(hr h2'.symm).elim
 · by_cases hr:r=x.r
   · simp only [if_pos hr,List.map_append,List.map_cons,List.map_take,List.map_drop]
     refine pw_ins (S.ix.ord x.r) hlo (fun j k hj hk'=>?_)
     have h1:=hhi j k hj hk'
     rcases Nat.lt_or_eq_of_le h1 with h2' | h2'
     · exact h2'
     · exfalso
       rw [List.getElem?_map]at hk'
       cases hx:(ix x.r)[j]? with
       | none=>rw [hx]at hk';cases hk'
       | some p=>
        rw [hx]at hk'
        have hk':p.2.n=k:=by simpa using hk'
        have hpM:=(S.ix.mem x.r p).1 (List.mem_of_getElem? hx)
        have hap:=R.uniq hp (S.sub p hpM.1) (fun e=>hM (e ▸ hpM.1)) hpM.2.symm
        have p1:=(R.ok _ hp).pos
        have p2:=(R.ok _ (S.sub p hpM.1)).pos
        simp only []at hap p1
        omega
   · simp only [if_neg hr];exact S.ix.ord r
 · rw [at_put]
   by_cases hr:r=x.r
   · simp only [if_pos hr,List.map_append,List.map_cons,List.map_take,List.map_drop]
     exact hpl.keep (fun o ho=>get_set_ne (by have:=hv o ho;omega))
   · simp only [if_neg hr]
     exact(x3 r).keep (fun o ho=>keepO o (x4 r o ho).1 (fun e=>hr (x5 r x.r o ho e)) (x4 r o ho).2)
 · rw [at_put]at ho
   by_cases hr:r=x.r
   · rw [if_pos hr]at ho;have:=hv o ho;exact⟨this.2,by omega⟩
   · rw [if_neg hr]at ho;exact⟨Nat.lt_of_lt_of_le (x4 r o ho).1 hn,(x4 r o ho).2⟩
 · rw [at_put]at ho ho'
   by_cases hr:r=x.r <;> by_cases hr':r'=x.r
   · rw [hr,hr']
   · rw [if_pos hr]at ho;rw [if_neg hr']at ho'
     have:=hv o ho;have:=(x4 r' o ho').1;omega
   · rw [if_neg hr]at ho;rw [if_pos hr']at ho'
     have:=hv o ho';have:=(x4 r o ho).1;omega
   · rw [if_neg hr]at ho;rw [if_neg hr']at ho';exact x5 r r' o ho ho'
 · rintro p (h1 | rfl)
   · exact S.sub p h1
   · exact hp
 · rcases hI2 o ho with h1 | h1
   · exact S.sep o h1.1
   · exact⟨fun e=>by have:=S.rp.lr;omega,fun e=>by have:=S.rp.lt o e;omega⟩
 · exact keepO o ho (fun e=>hno (.inr (.inr (hI _ _ e)))) (fun e=>hno (.inr (.inr (by rw [e];exact hIq))))
 · rcases ho with rfl | ho | ho
   · exact .inl (.inl rfl)
   · exact .inl (.inr (.inl ho))
   · rcases hI2 o ho with h1 | h1
     · exact .inl (.inr (.inr h1.1))
     · exact .inr h1.1
theorem know_ev {h:AHeap} {s a:Nat} {m:AVal} {t:Rt RunV} {M:Nat×RunV→Prop} {ix:Nat→List (Nat×RunV)} {x:RunV} (S:Sx zT h s m t M ix) (R:Rok t.items) (hp:(a,x)∈t.items) (hM:¬M (a,x)) {Q:AVal→AHeap→Prop}
 (hq:∀h' m' ix',Sx zT h' s m' t (fun p=>M p∨p=(a,x)) ix'→Stp h (SOwn h s m t) h' (SOwn h' s m' t)→Q (.tuple []) h'):Ev (cfgR ro) 189 [.ptr s 0,.ptr a 0] h Q:=by
 refine Ev.wp rfl rfl Tryz.func189 rfl ?_
 obtain⟨s0,hr⟩:=S.rp.root
 rw [rrow]at hr
 simp only [List.nil_append]at hr
 obtain⟨u,l,r,ht,sz,all,hn⟩:=At.item S.rp.tree hp
 have iaEq:∀q,eqFlat Tryz.prog h (.map 47 270) (.map q) .nilm=.ok false:=fun q=>by rfl
 have iaNil:eqFlat Tryz.prog h (.map 47 270) .nilm .nilm=.ok true:=by rfl
 rcases S.ix.obj with ⟨rfl,hix⟩ | ⟨q,ks,rfl,x1,x2,x3,x4,x5⟩
 · simp -implicitDefEqProofs [Tryz.f189,hr,iaNil]
   obtain⟨q,hqq⟩:∃q,q=h.next:=⟨_,rfl⟩
   obtain⟨H1,hH1⟩:∃H1,H1=(h.push (.map [])).set s (.row 0 false (t.ptr :: .int .u64 s0 :: .map q :: zT)):=⟨_,rfl⟩
   have hsl:=S.rp.lr
   have hrp:(h.push (.map [])).get s=some (.row 0 false (t.ptr :: .int .u64 s0 :: .nilm :: zT)):=by rw [AHeap.get_push,if_neg (by omega)];exact hr
   have k1:∀o,o < h.next→o≠s→H1.get o=h.get o:=fun o h1 h2=>by rw [hH1,get_set_ne (Ne.symm h2),AHeap.get_push,if_neg (by omega)]
   have nx1:H1.next=h.next+1:=by rw [hH1];rfl
   have x1:q < H1.next:=by omega
   have x2:H1.get q=some (.map (entA [])):=by rw [hH1,get_set_ne (by omega),hqq,get_push_next];rfl
   have hr1:H1.get s=some (.row 0 false (t.ptr :: .int .u64 s0 :: .map q :: zT)):=by rw [hH1,get_set_self]
   have x4:∀r o,vobj (atK [] r) o→o < H1.next∧o≠q:=fun r o h=>h.elim
   have x3:∀r,PL H1 (atK [] r) ((ix r).map (·.1)):=fun r=>.inl ⟨by rw [hix];rfl,rfl⟩
   have hI:∀o,IObj (.map q) H1 o→o=q:=by
    rintro o ⟨q',e,ho⟩
    cases e
    rcases ho with h1 | ⟨ks,r,e1,e2⟩
    · exact h1
    · rw [x2]at e1;cases entA_inj (AObj.map.inj (Option.some.inj e1));exact e2.elim
   have S1:Sx zT H1 s (.map q) t M ix:=by
    refine⟨⟨⟨s0,hr1⟩,At.congr (fun o ho=>k1 o (S.rp.lt o ho) (fun e=>S.rp.rt (by rw [←e];exact ho))) S.rp.tree,S.rp.nd,S.rp.rt,by omega,fun o ho=>by have:=S.rp.lt o ho;omega⟩,⟨S.ix.mem,S.ix.ord,.inr ⟨q,[],rfl,x1,x2,x3,x4,fun r r' o h=>h.elim⟩⟩,S.sub,fun o ho=>?_⟩
    rw [hI o ho]
    exact⟨by omega,fun e=>by have:=S.rp.lt q e;omega⟩
   have P1:Stp h (SOwn h s .nilm t) H1 (SOwn H1 s (.map q) t):=by
    refine⟨by omega,fun o ho hn=>k1 o ho (fun e=>hn (.inl e)),fun o ho=>?_⟩
    rcases ho with h1 | h1 | h1
    · exact .inl (.inl h1)
    · exact .inl (.inr (.inl h1))
    · exact .inr (by rw [hI o h1];omega)
   have hna:a≠s:=fun e=>S.rp.rt (by rw [←e];unfold Rt.ids;exact List.mem_map.2 ⟨_,hp,rfl⟩)
   have hn1:H1.get a=some (nrow u l r ht sz x all):=by rw [k1 a (S.rp.lt a (by unfold Rt.ids;exact List.mem_map.2 ⟨_,hp,rfl⟩)) hna];exact hn
   simp -implicitDefEqProofs [hrp]
   rw [←hqq,←hH1]
   obtain⟨ks,hkk⟩:∃ks:List (Nat×AVal),ks=[]:=⟨_,rfl⟩
   rw [←hkk]at x2 x3 x4
   have hks:∀j:Nat,((ix x.r).map (·.2.n))[j]?=(ix x.r)[j]?.map (·.2.n):=fun j=>List.getElem?_map
   have hlen:=IX.len S1 (fun p hp=>R.ok p (S1.sub p hp)) x.r
   have hnq:=S1.lt a (.inr (.inl (by unfold Rt.ids;exact List.mem_map.2 ⟨_,hp,rfl⟩)))
   refine item_ev hn1 ?_
   simp -implicitDefEqProofs [RunV.cells,hr1,look_map x2,same_self]
   refine bsearch_ev (.inr rfl) (x3 x.r) (IX.keys S1 x.r) (by simp;omega) (fun i hi hlo hhi=>?_) (S.ix.ord x.r)
   rw [List.length_map]at hi
   obtain⟨H2,hH2⟩:∃H2,H2=H1.push (.row 1 false [.ptr a 0]):=⟨_,rfl⟩
   simp -implicitDefEqProofs [RunV.cells,hr1,look_map x2,same_self,buildSliceR,reps]
   rw [←hH2]
   refine ins_ev (ps:=(ix x.r).map (·.1)) (q:=H1.next) (p:=a) ((x3 x.r).keep (fun o ho=>by rw [hH2,AHeap.get_push,if_neg (by have:=(x4 _ _ ho).1;omega)])) (by rw [hH2];exact get_push_next _ _) (fun e=>by have:=(x4 _ _ e).1;omega) (by simpa using hi) (by simp;omega) (fun v' h3 c1 c2 c3 c4=>?_)
   have n2:H2.next=H1.next+1:=by rw [hH2];rfl
   have g2:∀o,o < H1.next→H2.get o=H1.get o:=fun o ho=>by rw [hH2,AHeap.get_push,if_neg (by omega)]
   obtain⟨ix',S2,P2⟩:=IX.put S1 R hp hM x2 hlo hhi c1 (fun o ho hv=>by rw [c2 o (by omega) hv,g2 o ho]) (by omega) (fun o ho=>by have:=c4 o ho;omega)
   have hqv:¬vobj (atK ks x.r) q:=fun e=>(x4 _ _ e).2 rfl
   have x2':h3.get q=some (.map (entA ks)):=by rw [c2 q (by omega) hqv,g2 q x1];exact x2
   have hs3:h3.get s=H1.get s:=by rw [c2 s (by have:=S1.rp.lr;omega) (fun e=>(S1.sep s ⟨q,rfl,.inr ⟨ks,x.r,x2,e⟩⟩).1 rfl),g2 s S1.rp.lr]
   have hr3:=hr1
   rw [←hs3]at hr3
   have hr4:=hr3
   rw [←get_set_ne (h:=h3) (o:=s) (q:=q) (x:=.map (entA (putK ks x.r v'))) (fun e=>(S1.sep q ⟨q,rfl,.inl rfl⟩).1 e)]at hr4
   simp -implicitDefEqProofs [RunV.cells,hr1,hr3,hr4,look_map x2,same_self,put_map x2']
   exact hq _ _ ix' S2 (P1.trans P2)
 · simp -implicitDefEqProofs [Tryz.f189,hr,iaEq]
   obtain⟨H1,hH1⟩:∃H1,H1=h:=⟨_,rfl⟩
   have S1:=S
   have hn1:=hn
   have hr1:=hr
   rw [←hH1]at S1 hn1 hr1 x1 x2 x3 x4 ⊢
   have hks:∀j:Nat,((ix x.r).map (·.2.n))[j]?=(ix x.r)[j]?.map (·.2.n):=fun j=>List.getElem?_map
   have hlen:=IX.len S1 (fun p hp=>R.ok p (S1.sub p hp)) x.r
   have hnq:=S1.lt a (.inr (.inl (by unfold Rt.ids;exact List.mem_map.2 ⟨_,hp,rfl⟩)))
   refine item_ev hn1 ?_
   simp -implicitDefEqProofs [RunV.cells,hr1,look_map x2,same_self]
   refine bsearch_ev (.inr rfl) (x3 x.r) (IX.keys S1 x.r) (by simp;omega) (fun i hi hlo hhi=>?_) (S.ix.ord x.r)
   rw [List.length_map]at hi
   obtain⟨H2,hH2⟩:∃H2,H2=H1.push (.row 1 false [.ptr a 0]):=⟨_,rfl⟩
   simp -implicitDefEqProofs [RunV.cells,hr1,look_map x2,same_self,buildSliceR,reps]
   rw [←hH2]
   refine ins_ev (ps:=(ix x.r).map (·.1)) (q:=H1.next) (p:=a) ((x3 x.r).keep (fun o ho=>by rw [hH2,AHeap.get_push,if_neg (by have:=(x4 _ _ ho).1;omega)])) (by rw [hH2];exact get_push_next _ _) (fun e=>by have:=(x4 _ _ e).1;omega) (by simpa using hi) (by simp;omega) (fun v' h3 c1 c2 c3 c4=>?_)
   have n2:H2.next=H1.next+1:=by rw [hH2];rfl
   have g2:∀o,o < H1.next→H2.get o=H1.get o:=fun o ho=>by rw [hH2,AHeap.get_push,if_neg (by omega)]
   obtain⟨ix',S2,P2⟩:=IX.put S1 R hp hM x2 hlo hhi c1 (fun o ho hv=>by rw [c2 o (by omega) hv,g2 o ho]) (by omega) (fun o ho=>by have:=c4 o ho;omega)
   have hqv:¬vobj (atK ks x.r) q:=fun e=>(x4 _ _ e).2 rfl
   have x2':h3.get q=some (.map (entA ks)):=by rw [c2 q (by omega) hqv,g2 q x1];exact x2
   have hs3:h3.get s=H1.get s:=by rw [c2 s (by have:=S1.rp.lr;omega) (fun e=>(S1.sep s ⟨q,rfl,.inr ⟨ks,x.r,x2,e⟩⟩).1 rfl),g2 s S1.rp.lr]
   have hr3:=hr1
   rw [←hs3]at hr3
   have hr4:=hr3
   rw [←get_set_ne (h:=h3) (o:=s) (q:=q) (x:=.map (entA (putK ks x.r v'))) (fun e=>(S1.sep q ⟨q,rfl,.inl rfl⟩).1 e)]at hr4
   simp -implicitDefEqProofs [RunV.cells,hr1,hr3,hr4,look_map x2,same_self,put_map x2']
   exact hq _ _ ix' S2 (by rw [hH1]at P2;exact P2)
end
end Go.Proofs.YtlhlbamcgopiiaaGreatDoor
set_option linter.all false
set_option maxRecDepth 100000
set_option maxHeartbeats 4000000
namespace Go.Proofs.YtlhlbamcgopiiaaGreatDoor
open Go Go.RowKit Go.Proofs
section
variable {ro:Nat→Option (List AVal)}
theorem del_ev {h:AHeap} {v:AVal} {ps:List Nat} {i:Nat} (hv:PL h v ps) (hi:i < ps.length) (hl:ps.length < 2 ^ 40) {Q:AVal→AHeap→Prop}
 (hK:∀v' h',PL h' v' (ps.take i++ps.drop (i+1))→(∀o,¬vobj v o→h'.get o=h.get o)→h'.next=h.next→(∀o,vobj v' o→vobj v o)→Q v' h'):Ev (cfgR ro) 216 [v,.int .i64 (i:Nat),.int .i64 ((i+1:Nat):Int)] h Q:=by
 rcases hv with ⟨rfl,rfl⟩ | ⟨o,fz,vs,rfl,h1,h2,h3⟩
 · simp at hi
 refine Ev.wp rfl rfl Tryz.func216 rfl ?_
 obtain⟨n,hn⟩:∃n,n=ps.length:=⟨_,rfl⟩
 obtain⟨j,hj⟩:∃j,j=i+1:=⟨_,rfl⟩
 rw [←hn]at h2 h3 hi hl ⊢
 rw [←hj]
 have hne:decide ((i:Int)=(j:Int))=false:=decide_eq_false (by omega)
 have b1:boundR (.int .i64 (n:Int)) n=.ok n:=bd_nat (Nat.le_refl _)
 have b2:boundR (.int .i64 (j:Int)) n=.ok j:=bd_nat (by omega)
 have b3:boundR (.int .i64 (i:Int)) j=.ok i:=bd_nat (by omega)
 have b4:boundR (.int .i64 (i:Int)) n=.ok i:=bd_nat (by omega)
 obtain⟨d,hd⟩:∃d,d=n - j:=⟨_,rfl⟩
 obtain⟨l,hll⟩:∃l,l=i+d:=⟨_,rfl⟩
 have hroom:∀(h':AHeap) (ws:List AVal) off,h'.get o=some (.row 1 fz ws)→roomOf h' o off 1=.ok (ws.length - off):=fun h' ws off e=>by unfold roomOf;rw [e];simp
 have k1:sliceSl h 1 (.sl o 0 n) (some (.int .i64 (i:Int))) (some (.int .i64 (j:Int))) (some (.int .i64 (n:Int)))=.ok (slcOf o 0 1 i j n):=by simp [sliceSl,bounds3,b1,b2,b3]
 have bx:boundR (.int .i64 (i:Int)) (max n (vs.length - 0))=.ok i:=bd_nat (by omega)
 have k2:sliceSl h 1 (.sl o 0 n) none (some (.int .i64 (i:Int))) none=.ok (.sl o 0 i):=by simp only [sliceSl,hroom h vs 0 h1,bounds2,Res.ok_bind,bx];simp
 have k3:sliceSl h 1 (.sl o 0 n) (some (.int .i64 (j:Int))) none none=.ok (.sl o j d):=by simp only [sliceSl,hroom h vs 0 h1,bounds2,Res.ok_bind,b2];simp [hd]
 obtain⟨new,hnew⟩:∃new,new=(vs.drop j).take d:=⟨_,rfl⟩
 have hnl:new.length=d:=by rw [hnew];simp;omega
 have k4:readSl (cfgR ro) h 1 d (.sl o j d)=.ok new:=by
  simp only [rs_sl,h1]
  by_cases c:d=0
  · rw [if_pos c,hnew,c];rfl
  · rw [if_neg c];unfold takeR;rw [if_pos (by omega),Nat.mul_one,hnew]
 have k4':(if d=0 then Res.ok []else takeR vs j d)=.ok new:=by
  have:=k4
  simp only [rs_sl,h1,Nat.mul_one]at this
  exact this
 obtain⟨ws,hws⟩:∃ws,ws=vs.take i++new++vs.drop (i+d):=⟨_,rfl⟩
 have hwl:ws.length=vs.length:=by rw [hws];simp;omega
 have k5:appCore 1 8 h (.sl o 0 i) d new=.ok (.sl o 0 l,h.set o (.row 1 fz ws)):=by
  unfold appCore
  simp only [h1,if_true]
  rw [if_pos (by omega)]
  unfold overR
  rw [if_pos (by omega),Nat.zero_add,Nat.mul_one,hnl,←hws,hll];rfl
 obtain⟨H,hH⟩:∃H,H=h.set o (.row 1 fz ws):=⟨_,rfl⟩
 rw [←hH]at k5
 have hg:H.get o=some (.row 1 fz ws):=by rw [hH,get_set_self]
 have by_:boundR (.int .i64 (n:Int)) (max l (ws.length - 0))=.ok n:=bd_nat (by omega)
 have bz:boundR (.int .i64 (l:Int)) n=.ok l:=bd_nat (by omega)
 have bx2:boundR (.int .i64 (i:Int)) (max n (ws.length - 0))=.ok i:=bd_nat (by omega)
 have k2H:sliceSl H 1 (.sl o 0 n) none (some (.int .i64 (i:Int))) none=.ok (.sl o 0 i):=by simp only [sliceSl,hroom H ws 0 hg,bounds2,Res.ok_bind,bx2];simp
 have k3H:sliceSl H 1 (.sl o 0 n) (some (.int .i64 (j:Int))) none none=.ok (.sl o j d):=by simp only [sliceSl,hroom H ws 0 hg,bounds2,Res.ok_bind,b2];simp [hd]
 have k6:sliceSl H 1 (.sl o 0 l) (some (.int .i64 (l:Int))) (some (.int .i64 (n:Int))) none=.ok (.sl o l 1):=by
  simp only [sliceSl,hroom H ws 0 hg,bounds2,Res.ok_bind,by_,bz];simp;omega
 have k7:clearR (cfgR ro) H 270 (.sl o l 1)=.ok (.tuple [],H.set o (.row 1 fz (ws.take l++[.nilp]++ws.drop (l+1)))):=by
  unfold clearR
  simp [hg,reps,overR]
  rw [if_pos (by omega)];rfl
 simp -implicitDefEqProofs [Tryz.f216,h1,k1,hne,k2,k3,k4',k5,k6,k7,k2H,k3H,same_self]
 have e1:l+1=n:=by omega
 refine hK (.sl o 0 l) (H.set o (.row 1 fz (ws.take l++.nilp :: ws.drop (l+1)))) (.inr ⟨o,fz,ws.take l++.nilp :: ws.drop (l+1),?_,get_set_self _ _ _,?_,?_⟩) (fun o' ho=>?_) (by rw [AHeap.next_set,hH,AHeap.next_set]) (fun o' ho=>ho)
 · have:(ps.take i++ps.drop (i+1)).length=l:=by simp;omega
   rw [this]
 · have:(ps.take i++ps.drop (i+1)).length=l:=by simp;omega
   rw [this,List.take_append_of_le_length (by simp;omega),List.take_take,Nat.min_self]
   have hv:vs.take i=(ps.map fun p=>AVal.ptr p 0).take i:=by rw [←h2,List.take_take,Nat.min_eq_left (by omega)]
   have hv2:new=(ps.map fun p=>AVal.ptr p 0).drop j:=by
    rw [←h2,hnew,List.drop_take,hd]
   rw [hws,List.take_append_of_le_length (by simp;omega),List.take_of_length_le (by simp;omega),hv,hv2,List.map_append,List.map_take,List.map_drop,hj]
 · have:(ps.take i++ps.drop (i+1)).length=l:=by simp;omega
   rw [this];simp;omega
 · rw [get_set_ne (fun e=>ho (by rw [←e];rfl)),hH,get_set_ne (fun e=>ho (by rw [←e];rfl))]
end
end Go.Proofs.YtlhlbamcgopiiaaGreatDoor
set_option linter.all false
set_option maxRecDepth 100000
set_option maxHeartbeats 4000000
namespace Go.Proofs.YtlhlbamcgopiiaaGreatDoor
open Go Go.RowKit Go.Proofs
variable {zT:List AVal}
theorem Rok.iff (L1 L2:List (Nat×RunV)) (p:Nat×RunV):Rok (L1++p :: L2)↔Rok (L1++L2)∧RunOk p.2∧∀q∈L1++L2,q.2.apart p.2:=by
 constructor
 · rintro⟨h1,h2⟩
   rw [List.pairwise_append,List.pairwise_cons]at h2
   obtain⟨a1,⟨a2,a3⟩,a4⟩:=h2
   refine⟨⟨fun q hq=>h1 q ?_,?_⟩,h1 p (by simp),fun q hq=>?_⟩
   · rcases List.mem_append.1 hq with h | h <;> simp [h]
   · rw [List.pairwise_append];exact⟨a1,a3,fun a ha b hb=>a4 a ha b (by simp [hb])⟩
   · rcases List.mem_append.1 hq with h | h
     · exact a4 q h p (by simp)
     · exact apart_symm (a2 q h)
 · rintro⟨⟨h1,h2⟩,h3,h4⟩
   rw [List.pairwise_append]at h2
   refine⟨fun q hq=>?_,?_⟩
   · rcases List.mem_append.1 hq with h | h
     · exact h1 q (by simp [h])
     · rcases List.mem_cons.1 h with rfl | h
       · exact h3
       · exact h1 q (by simp [h])
   · rw [List.pairwise_append,List.pairwise_cons]
     refine⟨h2.1,⟨fun q hq=>apart_symm (h4 q (by simp [hq])),h2.2.1⟩,fun a ha b hb=>?_⟩
     rcases List.mem_cons.1 hb with rfl | hb
     · exact h4 a (by simp [ha])
     · exact h2.2.2 a ha b hb
def RunV.within (z y:RunV):Prop:=z.r=y.r∧y.n≤z.n∧z.n+z.text.length≤y.n+y.text.length
theorem apart_within {x y z:RunV} (h:x.apart y) (w:z.within y):x.apart z:=by
 obtain⟨w1,w2,w3⟩:=w
 intro e
 have:=h (e.trans w1)
 omega
theorem fst_within (y:RunV) (k:Nat):(y.fst k).within y:=⟨rfl,Nat.le_refl _,by simp [RunV.fst];omega⟩
theorem snd_within (y:RunV) {k:Nat} (hk:k≤y.text.length):(y.snd k).within y:=⟨rfl,by simp [RunV.snd],by simp [RunV.snd];omega⟩
theorem RunOk.fst {y:RunV} (h:RunOk y) {k:Nat} (h1:1≤k) (h2:k < y.text.length):RunOk (y.fst k):=by
 obtain⟨a1,a2,a3,a4,a5,a6⟩:=h
 have hl:(y.fst k).text.length=k:=by simp [RunV.fst];omega
 exact⟨by omega,by omega,a3,by show y.n+_≤_;omega,a5,by show y.en+_≤_;omega⟩
theorem RunOk.snd {y:RunV} (h:RunOk y) {k:Nat} (h1:1≤k) (h2:k < y.text.length):RunOk (y.snd k):=by
 obtain⟨a1,a2,a3,a4,a5,a6⟩:=h
 have hl:(y.snd k).text.length=y.text.length - k:=by simp [RunV.snd]
 exact⟨by omega,by omega,by show 1≤y.n+k;omega,by show y.n+k+_≤_;omega,by show 1≤y.en+k;omega,by show y.en+k+_≤_;omega⟩
theorem Rok.set {L1 L2:List (Nat×RunV)} {a b:Nat} {y z:RunV} (h:Rok (L1++(a,y) :: L2)) (hz:RunOk z) (w:z.within y):Rok (L1++(b,z) :: L2):=by
 rw [Rok.iff]at h ⊢
 exact⟨h.1,hz,fun q hq=>apart_within (h.2.2 q hq) w⟩
theorem Rok.cut {L1 L2:List (Nat×RunV)} {a b c:Nat} {y:RunV} {k:Nat} (h:Rok (L1++(a,y) :: L2)) (h1:1≤k) (h2:k < y.text.length):Rok (L1++(b,y.fst k) :: (c,y.snd k) :: L2):=by
 have hy:=((Rok.iff _ _ _).1 h).2.1
 have e:=h.set (b:=c) (hy.snd h1 h2) (snd_within y (Nat.le_of_lt h2))
 rw [Rok.iff]at h ⊢
 refine⟨e,hy.fst h1 h2,fun q hq=>?_⟩
 rcases List.mem_append.1 hq with hq | hq
 · exact apart_within (h.2.2 q (by simp [hq])) (fst_within y k)
 · rcases List.mem_cons.1 hq with rfl | hq
   · intro _;right;show y.n+_≤y.n+k;simp [RunV.fst];omega
   · exact apart_within (h.2.2 q (by simp [hq])) (fst_within y k)
theorem Rok.join {L1 L2:List (Nat×RunV)} {a b:Nat} {x y:RunV} (h:Rok (L1++(a,x) :: (b,y) :: L2)) (j:x.joins y):Rok (L1++(a,x.join y) :: L2):=by
 rw [Rok.iff]at h
 obtain⟨h1,h2,h3⟩:=h
 rw [Rok.iff]at h1
 obtain⟨g1,g2,g3⟩:=h1
 rw [Rok.iff]
 have hl:(x.join y).text.length=x.text.length+y.text.length:=by simp [RunV.join]
 obtain⟨⟨j1,j2,j3⟩,⟨j4,j5⟩,j6,j7⟩:=j
 refine⟨g1,?_,fun q hq=>?_⟩
 · obtain⟨a1,a2,a3,a4,a5,a6⟩:=h2
   obtain⟨b1,b2,b3,b4,b5,b6⟩:=g2
   simp only []at a1 a2 a3 a4 a5 a6 b1 b2 b3 b4 b5 b6
   exact⟨by simp only [];omega,by simp only [];omega,a3,by show x.n+_≤_;simp only [];omega,a5,by show x.en+_≤_;simp only [];omega⟩
 · have e1:=h3 q (by rcases List.mem_append.1 hq with h | h <;> simp [h])
   have e2:=g3 q hq
   intro e
   have e1:=e1 e
   have e2:=e2 (e.trans j2)
   simp only []at e1 e2
   show _≤x.n∨x.n+_≤_
   rw [hl]
   have p1:=h2.pos;have p2:=g2.pos;simp only []at p1 p2
   have pq:0 < q.2.text.length:=(g1.ok q hq).pos
   omega
theorem Rok.len {L:List (Nat×RunV)} (h:Rok L):L.length≤atomsN (L.map (·.2)):=by
 have:=h.ok
 clear h
 induction L with
 | nil=>simp
 | cons p L ih=>
  have h1:=ih (fun q hq=>this q (by simp [hq]))
  have h2:=(this p (by simp)).pos
  have e:atomsN ((p :: L).map (·.2))=p.2.text.length+atomsN (L.map (·.2)):=by simp [atomsN]
  rw [e,List.length_cons];omega
section
variable {h h':AHeap} {s:Nat} {m:AVal} {t t':Rt RunV} {ix:Nat→List (Nat×RunV)}
theorem fit_of (R:Rok t.items) (ha:t.at_≤2 ^ 20):t.items.length < 2 ^ 37∧t.at_ < 2 ^ 37∧Fit t:=by
 have:=R.len
 have e:atomsN (t.items.map (·.2))=t.at_:=rfl
 unfold Fit
 omega
theorem Sx.congr {M M':Nat×RunV→Prop} (S:Sx zT h s m t M ix) (e:∀p,M p↔M' p):Sx zT h s m t M' ix:=by
 have:M=M':=funext fun p=>propext (e p)
 rw [←this];exact S
theorem Sx.set {L1 L2:List (Nat×RunV)} {a:Nat} {y z:RunV} (S:Sx zT h s m t (· ∈t.items) ix) (hT:t.items=L1++(a,y) :: L2) (hT':t'.items=L1++(a,z) :: L2) (er:z.r=y.r) (en:z.n=y.n)
 (R:Rp ([],m :: zT) h' s t') (k:∀o,o < h.next→o ∉ t.ids→h'.get o=h.get o) (hn:h.next≤h'.next):
 ∃ix',Sx zT h' s m t' (· ∈t'.items) ix'∧Stp h (SOwn h s m t) h' (SOwn h' s m t'):=by
 have hids:t'.ids=t.ids:=by unfold Rt.ids;rw [hT,hT'];simp
 have kk:∀o,IObj m h o→h'.get o=h.get o:=fun o ho=>k o (S.lt o (.inr (.inr ho))) (S.sep o ho).2
 have hnd:t.ids.Nodup:=S.rp.nd
 have hna:∀p∈L1++L2,p.1≠a:=by
  have h1:=hnd
  unfold Rt.ids at h1
  rw [hT,List.map_append,List.map_cons,List.nodup_append,List.nodup_cons]at h1
  intro p hp e
  rcases List.mem_append.1 hp with hp | hp
  · exact h1.2.2 p.1 (List.mem_map.2 ⟨p,hp,rfl⟩) a (by simp) e
  · exact h1.2.1.1 (List.mem_map.2 ⟨p,hp,e⟩)
 have hf:∀p,p∈t.items↔p=(a,y)∨p∈L1++L2:=fun p=>by
  rw [hT];simp only [List.mem_append,List.mem_cons]
  constructor
  · rintro(h | h | h)
    · exact .inr (.inl h)
    · exact .inl h
    · exact .inr (.inr h)
  · rintro(h | h | h)
    · exact .inr (.inl h)
    · exact .inl h
    · exact .inr (.inr h)
 have hf':∀p,p∈t'.items↔p=(a,z)∨p∈L1++L2:=fun p=>by
  rw [hT'];simp only [List.mem_append,List.mem_cons]
  constructor
  · rintro(h | h | h)
    · exact .inr (.inl h)
    · exact .inl h
    · exact .inr (.inr h)
  · rintro(h | h | h)
    · exact .inr (.inl h)
    · exact .inl h
    · exact .inr (.inr h)
 let g:Nat×RunV→Nat×RunV:=fun p=>if p.1=a then(a,z)else p
 have g1:∀p,(g p).1=p.1:=fun p=>by simp only [g];split <;> simp_all
 have g2:∀p,p∈t.items→(g p).2.n=p.2.n∧(g p).2.r=p.2.r:=fun p hp=>by
  simp only [g]
  by_cases e:p.1=a
  · rw [if_pos e]
    rcases(hf p).1 hp with rfl | h2
    · exact⟨en,er⟩
    · exact(hna p h2 e).elim
  · rw [if_neg e];exact⟨rfl,rfl⟩
 have hmem:∀r p,p∈ix r→p∈t.items:=fun r p hp=>((S.ix.mem r p).1 hp).1
 have X:=S.ix
 have hm1:∀r,(((ix r).map g).map (·.1))=(ix r).map (·.1):=fun r=>by
  rw [List.map_map];exact List.map_congr_left (fun p _=>g1 p)
 have hm2:∀r,(((ix r).map g).map (·.2.n))=(ix r).map (·.2.n):=fun r=>by
  rw [List.map_map];exact List.map_congr_left (fun p hp=>(g2 p (hmem r p hp)).1)
 refine⟨fun r=>(ix r).map g,⟨R,⟨fun r p=>?_,fun r=>?_,?_⟩,fun p hp=>hp,fun o ho=>?_⟩,hn,fun o ho hn'=>k o ho (fun e=>hn' (.inr (.inl e))),fun o ho=>?_⟩
 · rw [List.mem_map]
   constructor
   · rintro⟨q,hq,rfl⟩
     obtain⟨q1,q2⟩:=(X.mem r q).1 hq
     refine⟨(hf' _).2 ?_,by rw [(g2 q q1).2];exact q2⟩
     simp only [g]
     rcases(hf q).1 q1 with rfl | h2
     · left;rw [if_pos rfl]
     · right;rw [if_neg (hna q h2)];exact h2
   · rintro⟨h1,h2⟩
     rcases(hf' p).1 h1 with rfl | h3
     · exact⟨(a,y),(X.mem r _).2 ⟨(hf _).2 (.inl rfl),by rw [←h2];exact er.symm⟩,by simp [g]⟩
     · exact⟨p,(X.mem r p).2 ⟨(hf p).2 (.inr h3),h2⟩,by simp only [g];rw [if_neg (hna p h3)]⟩
 · simp only [hm2];exact X.ord r
 · have X':=X.keep kk hn
   rcases X'.obj with ⟨h1,h2⟩ | ⟨q,ks,h1,h2,h3,h4,h5⟩
   · exact .inl ⟨h1,fun r=>by simp [h2 r]⟩
   · exact .inr ⟨q,ks,h1,h2,h3,fun r=>by rw [hm1];exact h4 r,h5⟩
 · rw [hids];exact S.sep o ((IObj.keep S kk o).1 ho)
 · rcases ho with rfl | ho | ho
   · exact .inl (.inl rfl)
   · exact .inl (.inr (.inl (by rw [←hids];exact ho)))
   · exact .inl (.inr (.inr ((IObj.keep S kk o).1 ho)))
end
end Go.Proofs.YtlhlbamcgopiiaaGreatDoor
set_option linter.all false
set_option maxRecDepth 100000
set_option maxHeartbeats 4000000
namespace Go.Proofs.YtlhlbamcgopiiaaGreatDoor
open Go Go.RowKit Go.Proofs
variable {zT:List AVal}
theorem mem_del {α:Type} {l:List α} {i:Nat} {p:α}:p∈l.take i++l.drop (i+1)↔∃j,j≠i∧l[j]?=some p:=by
 rw [List.mem_append]
 constructor
 · rintro(h | h)
   · obtain⟨j,hj⟩:=List.mem_iff_getElem?.1 h
     rw [List.getElem?_take]at hj
     split at hj
     · exact⟨j,by omega,hj⟩
     · cases hj
   · obtain⟨j,hj⟩:=List.mem_iff_getElem?.1 h
     rw [List.getElem?_drop]at hj
     exact⟨i+1+j,by omega,hj⟩
 · rintro⟨j,h1,h2⟩
   by_cases c:j < i
   · left;refine List.mem_iff_getElem?.2 ⟨j,?_⟩;rw [List.getElem?_take,if_pos c];exact h2
   · right;refine List.mem_iff_getElem?.2 ⟨j - (i+1),?_⟩;rw [List.getElem?_drop,show i+1+(j - (i+1))=j by omega];exact h2
section
variable {ro:Nat→Option (List AVal)}
theorem IX.at_eq {h:AHeap} {m:AVal} {M:Nat×RunV→Prop} {ix:Nat→List (Nat×RunV)} (X:IX h m M ix) {r i j:Nat} {p p':Nat×RunV} (h1:(ix r)[i]?=some p) (h2:(ix r)[j]?=some p') (e:p.2.n=p'.2.n):i=j:=by
 obtain⟨l1,e1⟩:=List.getElem?_eq_some_iff.1 h1
 obtain⟨l2,e2⟩:=List.getElem?_eq_some_iff.1 h2
 rcases Nat.lt_trichotomy i j with c | c | c
 · have:=List.pairwise_iff_getElem.1 (X.ord r) i j (by simpa using l1) (by simpa using l2) c
   simp [e1,e2]at this;omega
 · exact c
 · have:=List.pairwise_iff_getElem.1 (X.ord r) j i (by simpa using l2) (by simpa using l1) c
   simp [e1,e2]at this;omega
theorem IX.del {h h2:AHeap} {s q i:Nat} {t:Rt RunV} {M:Nat×RunV→Prop} {ix:Nat→List (Nat×RunV)} {ks:List (Nat×AVal)} {a:Nat} {x:RunV} {v':AVal} (S:Sx zT h s (.map q) t M ix) (hi:(ix x.r)[i]?=some (a,x)) (hg:h.get q=some (.map (entA ks)))
 (hpl:PL h2 v' (((ix x.r).map (·.1)).take i++((ix x.r).map (·.1)).drop (i+1))) (hk:∀o,¬vobj (atK ks x.r) o→h2.get o=h.get o) (hn:h2.next=h.next) (hv:∀o,vobj v' o→vobj (atK ks x.r) o):
 ∃ix',Sx zT (h2.set q (.map (entA (putK ks x.r v')))) s (.map q) t (fun p=>M p∧p≠(a,x)) ix'∧Stp h (SOwn h s (.map q) t) (h2.set q (.map (entA (putK ks x.r v')))) (SOwn (h2.set q (.map (entA (putK ks x.r v')))) s (.map q) t):=by
 obtain⟨q1,ks',hq,x1,x2,x3,x4,x5⟩:=S.ix.obj.resolve_left (fun e=>by cases e.1)
 cases hq
 rw [hg]at x2;cases entA_inj (AObj.map.inj (Option.some.inj x2))
 have hqv:¬vobj (atK ks x.r) q:=fun e=>(x4 _ _ e).2 rfl
 have keepO:∀o,¬vobj (atK ks x.r) o→o≠q→(h2.set q (.map (entA (putK ks x.r v')))).get o=h.get o:=fun o h2' h3=>by rw [get_set_ne (Ne.symm h3)];exact hk o h2'
 have hI:∀r o,vobj (atK ks r) o→IObj (.map q) h o:=fun r o ho=>⟨q,rfl,.inr ⟨ks,r,hg,ho⟩⟩
 have hIq:IObj (.map q) h q:=⟨q,rfl,.inl rfl⟩
 have hgq:(h2.set q (.map (entA (putK ks x.r v')))).get q=some (.map (entA (putK ks x.r v'))):=get_set_self _ _ _
 have hI2:∀o,IObj (.map q) (h2.set q (.map (entA (putK ks x.r v')))) o→IObj (.map q) h o:=by
  rintro o ⟨q',e,ho⟩
  cases e
  rcases ho with rfl | ⟨ks',r,e1,e2⟩
  · exact hIq
  · rw [hgq]at e1
    cases entA_inj (AObj.map.inj (Option.some.inj e1))
    rw [at_put]at e2
    by_cases hr:r=x.r
    · rw [if_pos hr]at e2;exact hI x.r o (hv o e2)
    · rw [if_neg hr]at e2
      exact hI r o e2
 have hn':(h2.set q (.map (entA (putK ks x.r v')))).next=h.next:=by rw [AHeap.next_set,hn]
 have hax:=(S.ix.mem x.r _).1 (List.mem_of_getElem? hi)
 refine⟨fun r=>if r=x.r then(ix x.r).take i++(ix x.r).drop (i+1)else ix r,⟨?_,⟨fun r p=>?_,fun r=>?_,.inr ⟨q,_,rfl,by rw [hn'];exact x1,hgq,fun r=>?_,fun r o ho=>?_,fun r r' o ho ho'=>?_⟩⟩,fun p hp=>S.sub p hp.1,fun o ho=>S.sep o (hI2 o ho)⟩,by rw [hn'];exact Nat.le_refl _,fun o ho hno=>?_,fun o ho=>?_⟩
 · obtain⟨⟨s0,hr⟩,h1,h2',h3,h4,h5⟩:=S.rp
   refine⟨⟨s0,?_⟩,At.congr (fun o ho=>?_) h1,h2',h3,by rw [hn'];exact h4,fun o ho=>by rw [hn'];exact h5 o ho⟩
   · rw [keepO s (fun e=>(S.sep s (hI _ _ e)).1 rfl) (fun e=>(S.sep q hIq).1 e.symm)];exact hr
   · exact keepO o (fun e=>(S.sep o (hI _ _ e)).2 ho) (fun e=>(S.sep q hIq).2 (by rw [←e];exact ho))
 · by_cases hr:r=x.r
   · simp only [if_pos hr]
     rw [mem_del]
     constructor
     · rintro⟨j,h1,h2'⟩
       have:=(S.ix.mem x.r p).1 (List.mem_of_getElem? h2')
       exact⟨⟨this.1,fun e=>h1 (S.ix.at_eq h2' hi (by rw [e]))⟩,by rw [hr];exact this.2⟩
     · rintro⟨⟨h1,h2'⟩,h3⟩
       obtain⟨j,hj⟩:=List.mem_iff_getElem?.1 ((S.ix.mem x.r p).2 ⟨h1,by rw [←hr];exact h3⟩)
       exact⟨j,fun e=>h2' (by rw [e,hi]at hj;exact(Option.some.inj hj).symm),hj⟩
   · simp only [if_neg hr]
     rw [S.ix.mem r p]
     constructor
     · rintro⟨h1,h2'⟩;exact⟨⟨h1,fun e=>hr (by rw [←h2',e])⟩,h2'⟩
     · rintro⟨h1,h2'⟩;exact⟨h1.1,h2'⟩
 · by_cases hr:r=x.r
   · simp only [if_pos hr]
     have:=S.ix.ord x.r
     refine List.Pairwise.sublist (List.Sublist.map _ ?_) this
     rw [←List.eraseIdx_eq_take_drop_succ];exact List.eraseIdx_sublist _ _
   · simp only [if_neg hr];exact S.ix.ord r
 · rw [at_put]
   by_cases hr:r=x.r
   · simp only [if_pos hr,List.map_append,List.map_take,List.map_drop]
     exact hpl.keep (fun o ho=>get_set_ne (fun e=>hqv (by rw [e];exact hv o ho)))
   · simp only [if_neg hr]
     exact(x3 r).keep (fun o ho=>keepO o (fun e=>hr (x5 r x.r o ho e)) (x4 r o ho).2)
 · rw [at_put]at ho
   rw [hn']
   by_cases hr:r=x.r
   · rw [if_pos hr]at ho;exact x4 x.r o (hv o ho)
   · rw [if_neg hr]at ho;exact x4 r o ho
 · rw [at_put]at ho ho'
   by_cases hr:r=x.r <;> by_cases hr':r'=x.r
   · rw [hr,hr']
   · rw [if_pos hr]at ho;rw [if_neg hr']at ho'
     exact(hr' (x5 r' x.r o ho' (hv o ho))).elim
   · rw [if_neg hr]at ho;rw [if_pos hr']at ho'
     exact(hr (x5 r x.r o ho (hv o ho'))).elim
   · rw [if_neg hr]at ho;rw [if_neg hr']at ho';exact x5 r r' o ho ho'
 · exact keepO o (fun e=>hno (.inr (.inr (hI _ _ e)))) (fun e=>hno (.inr (.inr (by rw [e];exact hIq))))
 · rcases ho with rfl | ho | ho
   · exact .inl (.inl rfl)
   · exact .inl (.inr (.inl ho))
   · exact .inl (.inr (.inr (hI2 o ho)))
theorem forget_ev {h:AHeap} {s a:Nat} {m:AVal} {t:Rt RunV} {ix:Nat→List (Nat×RunV)} {x:RunV} {L1 L2:List (Nat×RunV)} (S:Sx zT h s m t (· ∈t.items) ix) (R:Rok t.items) (hT:t.items=L1++(a,x) :: L2) (hfit:Fit t) {Q:AVal→AHeap→Prop}
 (hq:∀h' t' ix',Sx zT h' s m t' (· ∈t'.items) ix'→t'.items=L1++L2→Stp h (SOwn h s m t) h' (SOwn h' s m t')→Q (.tuple []) h'):Ev (cfgR ro) 195 [.ptr s 0,.ptr a 0] h Q:=by
 refine Ev.wp rfl rfl Tryz.func195 rfl ?_
 obtain⟨s0,hr⟩:=S.rp.root
 rw [rrow]at hr
 simp only [List.nil_append]at hr
 have hp:(a,x)∈t.items:=by rw [hT];simp
 obtain⟨u,l,r,ht,sz,all,hn⟩:=At.item S.rp.tree hp
 have hx:=R.ok _ hp
 simp only []at hx
 have hhas:x.has x.r x.n:=⟨rfl,Nat.le_refl _,by have:=hx.pos;omega⟩
 have hn2:=hx.n2
 simp -implicitDefEqProofs [Tryz.f195]
 refine item_ev hn ?_
 simp -implicitDefEqProofs [RunV.cells]
 refine keyID_ev ?_
 simp -implicitDefEqProofs [idA]
 refine find_ev (ar:=x.r) (an:=x.n) S R (by omega) (fun i p hi hh=>?_) (fun i hno=>(hno _ hp hhas).elim)
 have hpx:p=(a,x):=by
  have hm:=(S.ix.mem x.r p).1 (List.mem_of_getElem? hi)
  by_cases e:p=(a,x)
  · exact e
  · exact(apart_has (R.uniq hm.1 hp e) hh hhas).elim
 subst hpx
 rcases S.ix.obj with ⟨rfl,hix⟩ | ⟨q,ks,rfl,x1,x2,x3,x4,x5⟩
 · rw [hix]at hi;cases hi
 have hil:i < (ix x.r).length:=(List.getElem?_eq_some_iff.1 hi).1
 have hlen:=IX.len S (fun p hp=>R.ok p hp) x.r
 have w1:IntKind.i64.wrap ((i:Int)+1)=((i+1:Nat):Int):=by rw [w64 (by omega) (by omega)];omega
 simp -implicitDefEqProofs [hr,look_map x2,w1,same_self]
 refine del_ev (x3 x.r) (by simpa using hil) (by simp;omega) (fun v' h2 c1 c2 c3 c4=>?_)
 obtain⟨ix',S2,P2⟩:=IX.del S hi x2 c1 c2 c3 c4
 have hqv:¬vobj (atK ks x.r) q:=fun e=>(x4 _ _ e).2 rfl
 have x2':h2.get q=some (.map (entA ks)):=by rw [c2 q hqv];exact x2
 have hs3:h2.get s=h.get s:=by rw [c2 s (fun e=>(S.sep s ⟨q,rfl,.inr ⟨ks,x.r,x2,e⟩⟩).1 rfl)]
 have hr3:=hr
 rw [←hs3]at hr3
 have hr4:=hr3
 rw [←get_set_ne (h:=h2) (o:=s) (q:=q) (x:=.map (entA (putK ks x.r v'))) (fun e=>(S.sep q ⟨q,rfl,.inl rfl⟩).1 e)]at hr4
 have lk2:=look_map (ro:=ro) (r:=x.r) x2'
 simp -implicitDefEqProofs [hr,hr3,hr4,look_map x2,lk2,same_self,put_map x2']
 refine⟨.inl (by decide +kernel),?_⟩
 refine rope_remove (z:=([],.map q :: zT)) S2.rp hT hfit (fun h' t' R' e1 k1 n1=>?_)
 have hids:∀o∈t'.ids,o∈t.ids:=fun o ho=>by
  unfold Rt.ids at ho ⊢
  rw [e1]at ho;rw [hT]
  simp only [List.map_append,List.map_cons,List.mem_append,List.mem_cons]at ho ⊢
  rcases ho with h | h
  · exact .inl h
  · exact .inr (.inr h)
 have hnd:=S.rp.nd
 have hmem:∀p,(p∈t.items∧p≠(a,x))↔p∈t'.items:=fun p=>by
  rw [e1,hT]
  unfold Rt.ids at hnd
  rw [hT,List.map_append,List.map_cons,List.nodup_append,List.nodup_cons]at hnd
  simp only [List.mem_append,List.mem_cons]
  constructor
  · rintro⟨h1 | h1 | h1,h2⟩
    · exact .inl h1
    · exact(h2 h1).elim
    · exact .inr h1
  · rintro(h1 | h1)
    · exact⟨.inl h1,fun e=>hnd.2.2 p.1 (List.mem_map.2 ⟨p,h1,rfl⟩) a (by simp) (by rw [e])⟩
    · exact⟨.inr (.inr h1),fun e=>hnd.2.1.1 (List.mem_map.2 ⟨p,h1,by rw [e]⟩)⟩
 obtain⟨S3,P3⟩:=S2.tree R' (fun p hp=>(hmem p).1 hp) k1 n1 (fun o ho=>.inl (hids o ho))
 simp -implicitDefEqProofs
 exact hq _ t' ix' (S3.congr hmem) e1 (P2.trans P3)
end
end Go.Proofs.YtlhlbamcgopiiaaGreatDoor
set_option linter.all false
set_option maxRecDepth 100000
set_option maxHeartbeats 4000000
namespace Go.Proofs.YtlhlbamcgopiiaaGreatDoor
open Go Go.RowKit Go.Proofs
variable {zT:List AVal}
section
variable {ro:Nat→Option (List AVal)}
theorem atomsN_mid (L1 L2:List (Nat×RunV)) (p:Nat×RunV):atomsN ((L1++p :: L2).map (·.2))=atomsN (L1.map (·.2))+p.2.text.length+atomsN (L2.map (·.2)):=by
 simp [atomsN];omega
theorem at_items {t:Rt RunV} {L:List (Nat×RunV)} (h:t.items=L):t.at_=atomsN (L.map (·.2)):=by rw [←h];rfl
theorem cut_ev {h:AHeap} {s a k:Nat} {m:AVal} {t:Rt RunV} {ix:Nat→List (Nat×RunV)} {y:RunV} {L1 L2:List (Nat×RunV)} (S:Sx zT h s m t (· ∈t.items) ix) (R:Rok t.items) (hT:t.items=L1++(a,y) :: L2) (hat:t.at_≤2 ^ 20) (hk:k < 2 ^ 60) {Q:AVal→AHeap→Prop}
 (hq1:1≤k→k < y.text.length→∀h' m' t' ix' b,Sx zT h' s m' t' (· ∈t'.items) ix'→t'.items=L1++(a,y.fst k) :: (b,y.snd k) :: L2→Stp h (SOwn h s m t) h' (SOwn h' s m' t')→Q (.ptr a 0) h')
 (hq2:(k < 1∨y.text.length≤k)→Q (.ptr a 0) h):Ev (cfgR ro) 166 [.ptr s 0,.ptr a 0,.int .i64 k] h Q:=by
 refine Ev.wp rfl rfl Tryz.func166 rfl ?_
 have hp:(a,y)∈t.items:=by rw [hT];simp
 obtain⟨u,l,r,ht,sz,all,hn⟩:=At.item S.rp.tree hp
 have hy:=R.ok _ hp
 simp only []at hy
 have hfit:=fit_of R hat
 have hata:=at_items hT
 rw [atomsN_mid]at hata
 simp only []at hata
 simp -implicitDefEqProofs [Tryz.f166]
 refine item_ev hn ?_
 simp -implicitDefEqProofs [same_self]
 refine rCut_ev hy hk (fun h1 h2=>?_) (fun h1=>?_)
 · simp -implicitDefEqProofs [RunV.cells,same_self]
   refine rope_set (z:=([],m :: zT)) (x:=y.fst k) S.rp hT ⟨by omega,by simp [RunV.fst];omega⟩ (fun H1 t1 R1 e1 k1 n1=>?_)
   obtain⟨ix1,S1,P1⟩:=S.set (t':=t1) (z:=y.fst k) hT e1 rfl rfl R1 k1 n1
   simp -implicitDefEqProofs [RunV.cells,same_self]
   refine rope_put (z:=([],m :: zT)) (x:=y.snd k) (L1:=L1++[(a,y.fst k)]) (L2:=L2) S1.rp (by rw [e1];simp) ⟨?_,?_⟩ (.inr ⟨L1,a,_,rfl,rfl⟩) (fun b H2 t2 R2 e2 b2 k2 n2=>?_)
   · have:=congrArg List.length e1;have e0:=congrArg List.length hT;simp at this e0;omega
   · have:=at_items e1;rw [atomsN_mid]at this;simp [RunV.fst,RunV.snd]at this ⊢;omega
   have e2':t2.items=L1++(a,y.fst k) :: (b,y.snd k) :: L2:=by rw [e2];simp
   have hR2:Rok t2.items:=by rw [e2'];rw [hT]at R;exact R.cut h1 h2
   obtain⟨S2,P2⟩:=S1.tree R2 (fun p hp=>by
    rw [e1]at hp;rw [e2']
    simp only [List.mem_append,List.mem_cons]at hp ⊢
    rcases hp with h | h | h
    · exact .inl h
    · exact .inr (.inl h)
    · exact .inr (.inr (.inr h))) k2 n2 (fun o ho=>by
    unfold Rt.ids at ho ⊢
    rw [e2']at ho;rw [e1]
    simp only [List.map_append,List.map_cons,List.mem_append,List.mem_cons]at ho ⊢
    rcases ho with h | h | h | h
    · exact .inl (.inl h)
    · exact .inl (.inr (.inl h))
    · exact .inr (by omega)
    · exact .inl (.inr (.inr h)))
   simp -implicitDefEqProofs [RunV.cells,same_self]
   have hb2:(b,y.snd k)∈t2.items:=by rw [e2'];simp
   have hnb:¬(b,y.snd k)∈t1.items:=fun hm=>by
    have:=S1.rp.lt b (by unfold Rt.ids;exact List.mem_map.2 ⟨_,hm,rfl⟩)
    omega
   refine know_ev S2 hR2 hb2 hnb (fun H3 m3 ix3 S3 P3=>?_)
   simp -implicitDefEqProofs
   refine hq1 h1 h2 H3 m3 t2 ix3 b (S3.congr (fun p=>?_)) e2' ((P1.trans P2).trans P3)
   rw [e1,e2']
   simp only [List.mem_append,List.mem_cons]
   constructor
   · rintro((h | h | h) | h)
     · exact .inl h
     · exact .inr (.inl h)
     · exact .inr (.inr (.inr h))
     · exact .inr (.inr (.inl h))
   · rintro(h | h | h | h)
     · exact .inl (.inl h)
     · exact .inl (.inr (.inl h))
     · exact .inr h
     · exact .inl (.inr (.inr h))
 · simp -implicitDefEqProofs [zeroRun,same_self]
   exact hq2 h1
theorem join_nil {h:AHeap} {s:Nat} {Q:AVal→AHeap→Prop} (hq:Q (.tuple []) h):Ev (cfgR ro) 168 [.ptr s 0,.nilp] h Q:=by
 refine Ev.wp rfl rfl Tryz.func168 rfl ?_
 simp -implicitDefEqProofs [Tryz.f168]
 exact hq
theorem join_ev {h:AHeap} {s a:Nat} {m:AVal} {t:Rt RunV} {ix:Nat→List (Nat×RunV)} {x:RunV} {L1 L2:List (Nat×RunV)} (S:Sx zT h s m t (· ∈t.items) ix) (R:Rok t.items) (hT:t.items=L1++(a,x) :: L2) (hat:t.at_≤2 ^ 20) {Q:AVal→AHeap→Prop}
 (hq:∀h' t' ix',Sx zT h' s m t' (· ∈t'.items) ix'→t'.items=L1++jn a x L2→Stp h (SOwn h s m t) h' (SOwn h' s m t')→Q (.tuple []) h'):Ev (cfgR ro) 168 [.ptr s 0,.ptr a 0] h Q:=by
 refine Ev.wp rfl rfl Tryz.func168 rfl ?_
 have hp:(a,x)∈t.items:=by rw [hT];simp
 obtain⟨u,l,r,ht,sz,all,hn⟩:=At.item S.rp.tree hp
 have hx:=R.ok _ hp
 simp only []at hx
 have hfit:=fit_of R hat
 have hata:=at_items hT
 rw [atomsN_mid]at hata
 simp only []at hata
 simp -implicitDefEqProofs [Tryz.f168]
 refine rope_next S.rp.tree S.rp.nd hT ?_
 cases L2 with
 | nil=>
  simp -implicitDefEqProofs [headP]
  exact hq h t ix S hT (Stp.refl _ _)
 | cons p L3=>
  obtain⟨b,y⟩:=p
  have hpy:(b,y)∈t.items:=by rw [hT];simp
  obtain⟨u2,l2,r2,ht2,sz2,all2,hn2⟩:=At.item S.rp.tree hpy
  have hy:=R.ok _ hpy
  simp only []at hy
  simp -implicitDefEqProofs [headP]
  refine item_ev hn ?_
  simp -implicitDefEqProofs [same_self]
  refine item_ev hn2 ?_
  simp -implicitDefEqProofs [same_self]
  refine rJoin_ev hx hy (fun hj=>?_) (fun hj=>?_)
  · simp -implicitDefEqProofs [RunV.cells,same_self]
    have hT2:t.items=(L1++[(a,x)])++(b,y) :: L3:=by rw [hT];simp
    refine forget_ev S R hT2 hfit.2.2 (fun H1 t1 ix1 S1 e1 P1=>?_)
    have e1':t1.items=L1++(a,x) :: L3:=by rw [e1];simp
    simp -implicitDefEqProofs [RunV.cells,same_self]
    refine rope_set (z:=([],m :: zT)) (x:=x.join y) S1.rp e1' ⟨?_,?_⟩ (fun H2 t2 R2 e2 k2 n2=>?_)
    · have:=congrArg List.length e1';have e0:=congrArg List.length hT;simp at this e0;omega
    · have:=at_items e1';rw [atomsN_mid]at this;simp [RunV.join,atomsN]at this hata ⊢;omega
    obtain⟨ix2,S2,P2⟩:=S1.set (t':=t2) (z:=x.join y) e1' e2 rfl rfl R2 k2 n2
    simp -implicitDefEqProofs
    exact hq H2 t2 ix2 S2 (by rw [e2,jn_yes hj]) (P1.trans P2)
  · simp -implicitDefEqProofs [zeroRun,same_self]
    exact hq h t ix S (by rw [hT,jn_no hj]) (Stp.refl _ _)
end
end Go.Proofs.YtlhlbamcgopiiaaGreatDoor
set_option linter.all false
set_option maxRecDepth 100000
set_option maxHeartbeats 4000000
namespace Go.Proofs.YtlhlbamcgopiiaaGreatDoor
open Go Go.RowKit Go.Proofs
variable {zT:List AVal}
section
variable {ro:Nat→Option (List AVal)} {h:AHeap} {s:Nat} {m:AVal} {t:Rt RunV} {ix:Nat→List (Nat×RunV)}
theorem has_ev {ar an:Nat} (S:Sx zT h s m t (· ∈t.items) ix) (R:Rok t.items) (ha:an < 2 ^ 32) {Q:AVal→AHeap→Prop}
 (hq:∀b,(b=true↔∃p∈t.items,p.2.has ar an)→Q (.bool b) h):Ev (cfgR ro) 149 [.ptr s 0,idA ar an] h Q:=by
 refine Ev.wp rfl rfl Tryz.func149 rfl ?_
 simp -implicitDefEqProofs [Tryz.f149,idA,same_self]
 refine find_ev (ar:=ar) (an:=an) S R ha (fun i p hi hh=>?_) (fun i hno h1 h2 h3=>?_)
 · simp -implicitDefEqProofs [same_self]
   exact hq true ⟨fun _=>⟨p,((S.ix.mem ar p).1 (List.mem_of_getElem? hi)).1,hh⟩,fun _=>rfl⟩
 · simp -implicitDefEqProofs [same_self]
   exact hq false ⟨fun e=>(nomatch e),fun⟨p,h5,h4⟩=>(hno p h5 h4).elim⟩
theorem at_ev {ar an:Nat} (S:Sx zT h s m t (· ∈t.items) ix) (R:Rok t.items) (ha:an < 2 ^ 32) {Q:AVal→AHeap→Prop}
 (hq1:∀L1 a y L2,t.items=L1++(a,y) :: L2→y.has ar an→Q (.tuple [.ptr a 0,.int .i64 ((an - y.n:Nat):Int)]) h)
 (hq2:(∀p∈t.items,¬p.2.has ar an)→Q (.tuple [.nilp,.int .i64 0]) h):Ev (cfgR ro) 155 [.ptr s 0,idA ar an] h Q:=by
 refine Ev.wp rfl rfl Tryz.func155 rfl ?_
 obtain⟨s0,hr⟩:=S.rp.root
 rw [rrow]at hr
 simp only [List.nil_append]at hr
 obtain⟨v,hv,hlk,_⟩:=IX.look (ro:=ro) S ar
 simp -implicitDefEqProofs [Tryz.f155,idA,same_self]
 refine find_ev (ar:=ar) (an:=an) S R ha (fun i p hi hh=>?_) (fun i hno h1 h2 h3=>?_)
 · have hil:=(List.getElem?_eq_some_iff.1 hi).1
   obtain⟨a,e1,e2⟩:=PL.idx (ro:=ro) hv (i:=i) (by simpa using hil)
   have hpi:(ix ar)[i]=p:=(List.getElem?_eq_some_iff.1 hi).2
   have hM:=((S.ix.mem ar p).1 (List.mem_of_getElem? hi)).1
   obtain⟨u,l,r,ht,sz,all,hn⟩:=At.item (p:=p.1) (x:=p.2) S.rp.tree hM
   have e2:loadR (cfgR ro) h 25 a=.ok (.ptr p.1 0):=by rw [e2];simp [hpi]
   simp -implicitDefEqProofs [same_self,hr,hlk,e1,e2]
   refine item_ev hn ?_
   simp -implicitDefEqProofs [same_self,hr,hlk,e1,e2]
   refine rHas_ev (ar:=ar) (an:=an) (R.ok _ hM) ha (fun h1=>?_) (fun h1=>(h1 hh).elim)
   simp -implicitDefEqProofs [same_self,hr,hlk,e1,e2]
   obtain⟨L1,L2,hL⟩:=List.append_of_mem hM
   exact hq1 L1 p.1 p.2 L2 hL hh
 · simp -implicitDefEqProofs [same_self]
   exact hq2 hno
theorem slen_ev (S:Sx zT h s m t (· ∈t.items) ix) {Q:AVal→AHeap→Prop} (hq:Q (.int .i64 (t.at_:Nat)) h):Ev (cfgR ro) 71 [.ptr s 0] h Q:=by
 refine Ev.wp rfl rfl Tryz.func71 rfl ?_
 simp -implicitDefEqProofs [Tryz.f71]
 refine rope_all (z:=([],m :: zT)) S.rp (fun mm hm=>?_)
 have:=hm.at_
 simp -implicitDefEqProofs [MassV.cells]
 rw [this];exact hq
theorem sshown_ev (S:Sx zT h s m t (· ∈t.items) ix) {Q:AVal→AHeap→Prop} (hq:Q (.int .i64 ((shownTx t.rs).length:Nat)) h):Ev (cfgR ro) 87 [.ptr s 0] h Q:=by
 refine Ev.wp rfl rfl Tryz.func87 rfl ?_
 simp -implicitDefEqProofs [Tryz.f87]
 refine rope_all (z:=([],m :: zT)) S.rp (fun mm hm=>?_)
 have:=hm.sh
 simp -implicitDefEqProofs [MassV.cells]
 rw [this];exact hq
theorem free_ev {x:RunV} (S:Sx zT h s m t (· ∈t.items) ix) (R:Rok t.items) (hx:RunOk x) {Q:AVal→AHeap→Prop}
 (hq:∀b,(b=true↔∀p∈t.items,p.2.apart x)→Q (.bool b) h):Ev (cfgR ro) 187 [.ptr s 0,.agg x.cells] h Q:=by
 refine Ev.wp rfl rfl Tryz.func187 rfl ?_
 obtain⟨s0,hr⟩:=S.rp.root
 rw [rrow]at hr
 simp only [List.nil_append]at hr
 obtain⟨v,hv,hlk,_⟩:=IX.look (ro:=ro) S x.r
 have hlen:=IX.len S (fun p hp=>R.ok p hp) x.r
 obtain⟨lst,hlst⟩:∃lst,lst=x.n+(x.text.length - 1):=⟨_,rfl⟩
 have x1:=hx.pos
 have x2:=hx.n2
 have no:∀p∈t.items,p.2.has x.r x.n∨p.2.has x.r lst→Q (.bool false) h:=fun p hp hh=>hq false ⟨fun e=>(nomatch e),fun hall=>by
  have h1:=hall p hp
  have p1:=(R.ok p hp).pos
  rcases hh with hh | hh
  · obtain⟨e,a,b⟩:=hh
    have:=h1 e.symm;omega
  · obtain⟨e,a,b⟩:=hh
    have:=h1 e.symm;omega⟩
 simp -implicitDefEqProofs [Tryz.f187,RunV.cells,same_self]
 refine keyID_ev (c:=x.clock) (r:=x.r) (n:=x.n) ?_
 simp -implicitDefEqProofs [same_self,idA]
 refine has_ev (ar:=x.r) (an:=x.n) S R (by omega) (fun b1 hb1=>?_)
 cases b1 with
 | true=>
  obtain⟨p,hp,hh⟩:=hb1.1 rfl
  simp -implicitDefEqProofs [same_self]
  exact no p hp (.inl hh)
 | false=>
  have hno1:∀p∈t.items,¬p.2.has x.r x.n:=fun p hp hh=>by have:=hb1.2 ⟨p,hp,hh⟩;cases this
  simp -implicitDefEqProofs [same_self]
  refine rLast_ev (x:=x) x1 (by omega) ?_
  rw [←hlst]
  simp -implicitDefEqProofs [same_self,idA]
  refine has_ev (ar:=x.r) (an:=lst) S R (by omega) (fun b2 hb2=>?_)
  cases b2 with
  | true=>
   obtain⟨p,hp,hh⟩:=hb2.1 rfl
   simp -implicitDefEqProofs [same_self]
   exact no p hp (.inr hh)
  | false=>
   have hno2:∀p∈t.items,¬p.2.has x.r lst:=fun p hp hh=>by have:=hb2.2 ⟨p,hp,hh⟩;cases this
   simp -implicitDefEqProofs [same_self]
   refine rLast_ev (x:=x) x1 (by omega) ?_
   rw [←hlst]
   simp -implicitDefEqProofs [same_self,idA]
   refine find_ev (ar:=x.r) (an:=lst) S R (by omega) (fun i p hi hh=>(hno2 p ((S.ix.mem x.r p).1 (List.mem_of_getElem? hi)).1 hh).elim) (fun i hno h1 h2 h3=>?_)
   have hLen:lenR (cfgR ro) h 270 v=.ok (.int .i64 ((ix x.r).length:Nat)):=by
    rcases hv with ⟨e1,rfl⟩ | ⟨o,fz,vs,rfl,_⟩
    · have:(ix x.r).length=0:=by simpa using congrArg List.length e1
      simp [lenR,lenA,this]
    · simp [lenR,lenA]
   by_cases c0:(ix x.r).length≤i
   · simp -implicitDefEqProofs [same_self,hr,hlk,hLen,c0]
     refine hq true ⟨fun _ p hp e=>?_,fun _=>rfl⟩
     have hm:=(S.ix.mem x.r p).2 ⟨hp,e⟩
     have:=List.length_pos_of_mem hm
     omega
   · obtain⟨a,e1,e2⟩:=PL.idx (ro:=ro) hv (i:=i) (by simp;omega)
     obtain⟨p,hpi⟩:∃p,(ix x.r)[i]'(by omega)=p:=⟨_,rfl⟩
     have hi:(ix x.r)[i]?=some p:=by rw [←hpi];exact List.getElem?_eq_getElem _
     have hM:=(S.ix.mem x.r p).1 (List.mem_of_getElem? hi)
     obtain⟨u,l,r,ht,sz,all,hn⟩:=At.item (p:=p.1) (x:=p.2) S.rp.tree hM.1
     have e2:loadR (cfgR ro) h 25 a=.ok (.ptr p.1 0):=by rw [e2];simp [hpi]
     have pp:=(R.ok p hM.1).pos
     have lo:∀(j:Nat) (q:Nat×RunV),(ix x.r)[j]?=some q→j < i→q.2.n+q.2.text.length≤p.2.n:=by
      intro j q hj hlt
      obtain⟨l1,e5⟩:=List.getElem?_eq_some_iff.1 hj
      have:=List.pairwise_iff_getElem.1 (S.ix.ord x.r) j i (by simpa using l1) (by simp;omega) hlt
      simp [e5,hpi]at this
      have hMq:=(S.ix.mem x.r q).1 (List.mem_of_getElem? hj)
      have hap:=R.uniq hMq.1 hM.1 (fun e=>by rw [e]at this;omega) (hMq.2.trans hM.2.symm)
      omega
     have all_:(∀q,q∈t.items→q.2.r=x.r→(∀j,(ix x.r)[j]?=some q→q.2.n+q.2.text.length≤x.n∨x.n+x.text.length≤q.2.n))→Q (.bool true) h:=fun hh=>hq true ⟨fun _ q hq2 e=>by
      obtain⟨j,hj⟩:=List.mem_iff_getElem?.1 ((S.ix.mem x.r q).2 ⟨hq2,e⟩)
      exact hh q hq2 e j hj,fun _=>rfl⟩
     simp -implicitDefEqProofs [same_self,hr,hlk,hLen,c0,e1,e2]
     refine item_ev hn ?_
     by_cases c1:p.2.n < x.n
     · simp -implicitDefEqProofs [same_self,hr,hlk,hLen,c0,e1,e2,RunV.cells,c1]
       refine all_ (fun q hq2 e j hj=>?_)
       rcases Nat.lt_trichotomy j i with c | c | c
       · have:=lo j q hj c;omega
       · subst c;rw [hi]at hj;cases hj
         have:=hno1 p hM.1
         unfold RunV.has at this
         omega
       · have:=h2 j q c hj;omega
     · simp -implicitDefEqProofs [same_self,hr,hlk,hLen,c0,e1,e2,RunV.cells,c1]
       refine item_ev hn ?_
       simp -implicitDefEqProofs [same_self,hr,hlk,hLen,c0,e1,e2,RunV.cells,c1]
       refine rLast_ev (x:=x) x1 (by omega) ?_
       rw [←hlst]
       have pick:∀b,b=decide (lst < p.2.n)→Q (.bool b) h:=by
        rintro b rfl
        by_cases c2:lst < p.2.n
        · rw [decide_eq_true c2]
          refine all_ (fun q hq2 e j hj=>?_)
          have hi0:i=0:=by
           rcases h1 p hi with e | e
           · exact e
           · omega
          rcases Nat.lt_trichotomy j i with c | c | c
          · omega
          · subst c;rw [hi]at hj;cases hj;omega
          · have:=h2 j q c hj;omega
        · rw [decide_eq_false c2]
          refine hq false ⟨fun e=>(nomatch e),fun hall=>?_⟩
          have:=hall p hM.1 hM.2
          omega
       simp -implicitDefEqProofs [same_self,hr,hlk,hLen,c0,e1,e2,RunV.cells,idA]
       exact pick _ rfl
end
end Go.Proofs.YtlhlbamcgopiiaaGreatDoor
set_option linter.all false
set_option maxRecDepth 100000
set_option maxHeartbeats 4000000
namespace Go.Proofs.YtlhlbamcgopiiaaGreatDoor
open Go Go.RowKit Go.Proofs
variable {zT:List AVal}
instance (x:RunV):Decidable (RunOk x):=decidable_of_iff (0 < x.text.length∧x.text.length≤1024∧1≤x.n∧x.n+x.text.length≤2 ^ 28+1∧1≤x.en∧x.en+x.text.length≤2 ^ 28+1)
 ⟨fun⟨a,b,c,d,e,f⟩=>⟨a,b,c,d,e,f⟩,fun⟨a,b,c,d,e,f⟩=>⟨a,b,c,d,e,f⟩⟩
def posA (A:List AtV) (ar an:Nat):Option Nat:=if ar=0∧an=0 then some 0 else(atIx A ar an).map (· +1)
def hitA (A:List AtV) (x:RunV):Bool:=(atomsOf x).any fun a=>(atIx A a.r a.n).isSome
def putA (A:List AtV) (ar an:Nat) (x:RunV):List AtV×Nat:=
 if ¬(RunOk x∧plain x.text=true)then(A,11)else
 match posA A ar an with
 | none=>(A,40)
 | some k=>if hitA A x=true then(A,16)else if 65536 < A.length+x.text.length then(A,21)else(A.take k++atomsOf x++A.drop k,0)
def StA (zT:List AVal) (h:AHeap) (s:Nat) (O:Nat→Prop) (A:List AtV):Prop:=∃m t ix,Sx zT h s m t (· ∈t.items) ix∧Rok t.items∧(∀p∈t.items,plain p.2.text=true)∧t.at_≤65536∧flat t.rs=A∧(A.length≤1024→NJ t.rs)∧O=SOwn h s m t
theorem StA.old {h h':AHeap} {s:Nat} {O:Nat→Prop} {A:List AtV} (S:StA zT h s O A) (o:Old h h'):∃O',StA zT h' s O' A∧Stp h O h' O':=by
 obtain⟨m,t,ix,a1,a2,a3,a4,a5,a6,rfl⟩:=S
 obtain⟨b1,b2⟩:=a1.old o
 exact⟨_,⟨m,t,ix,b1,a2,a3,a4,a5,a6,rfl⟩,b2⟩
theorem StA.lt {h:AHeap} {s:Nat} {O:Nat→Prop} {A:List AtV} (S:StA zT h s O A):∀o,O o→o < h.next:=by
 obtain⟨m,t,ix,a1,a2,a3,a4,a5,a6,rfl⟩:=S
 exact a1.lt
theorem hit_iff {L:List (Nat×RunV)} {x:RunV} (R:Rok L) (hx:RunOk x):hitA (flat (L.map (·.2))) x=false↔∀p∈L,p.2.apart x:=by
 unfold hitA
 rw [List.any_eq_false]
 constructor
 · intro h p hp e
   have p1:=(R.ok p hp).pos
   have p2:=hx.pos
   by_cases c:p.2.n+p.2.text.length≤x.n∨x.n+x.text.length≤p.2.n
   · exact c
   · exfalso
     obtain⟨n,hn⟩:∃n,n=max p.2.n x.n:=⟨_,rfl⟩
     have hh:x.has x.r n:=⟨rfl,by omega,by omega⟩
     obtain⟨a,h1,h2,h3⟩:=has_atom hh
     have:=h a (List.mem_of_getElem? h1)
     rw [h2,h3]at this
     have hnone:atIx (flat (L.map (·.2))) x.r n=none:=by simpa using this
     exact(atIx_none.1 hnone) p.2 (List.mem_map.2 ⟨p,hp,rfl⟩) ⟨e.symm,by omega,by omega⟩
 · intro h a ha
   have h1:=mem_atomsOf ha
   have:atIx (flat (L.map (·.2))) a.r a.n=none:=atIx_none.2 (fun y hy hh=>by
    obtain⟨p,hp,rfl⟩:=List.mem_map.1 hy
    exact apart_has (h p hp) hh h1)
   rw [this];simp
theorem pos_at {L1 L2:List (Nat×RunV)} {a:Nat} {y:RunV} {ar an:Nat} (R:Rok (L1++(a,y) :: L2)) (hh:y.has ar an):atIx (flat ((L1++(a,y) :: L2).map (·.2))) ar an=some (atomsN (L1.map (·.2))+(an - y.n)):=by
 rw [List.map_append,List.map_cons]
 refine atIx_at hh (fun z hz hz2=>?_)
 obtain⟨p,hp,rfl⟩:=List.mem_map.1 hz
 have:=R.apart
 rw [List.pairwise_append]at this
 exact apart_has (this.2.2 p hp (a,y) (by simp)) hz2 hh
theorem flat_pos {L1 L2:List (Nat×RunV)} {a:Nat} {y:RunV} {k:Nat} (hk:k≤y.text.length):(flat ((L1++(a,y) :: L2).map (·.2))).take (atomsN (L1.map (·.2))+k)=flat (L1.map (·.2))++(atomsOf y).take k∧
 (flat ((L1++(a,y) :: L2).map (·.2))).drop (atomsN (L1.map (·.2))+k)=(atomsOf y).drop k++flat (L2.map (·.2)):=by
 rw [List.map_append,List.map_cons,flat_append,flat_cons]
 have e1:=flatten_length (L1.map (·.2))
 have e2:=atomsOf_len y
 rw [←e1]
 constructor
 · rw [List.take_length_add_append,List.take_append_of_le_length (by simp only [];omega)]
 · rw [List.drop_length_add_append,List.drop_append_of_le_length (by simp only [];omega)]
theorem plain_append (a b:Str):plain (a++b)=(plain a && plain b):=by simp [plain]
theorem jn_Rok {L1 L2:List (Nat×RunV)} {a:Nat} {x:RunV} (R:Rok (L1++(a,x) :: L2)):Rok (L1++jn a x L2):=by
 cases L2 with
 | nil=>exact R
 | cons p L=>
  obtain⟨b,y⟩:=p
  by_cases hj:x.joins y
  · rw [jn_yes hj];exact R.join hj
  · rw [jn_no hj];exact R
theorem jn_plain {L1 L2:List (Nat×RunV)} {a:Nat} {x:RunV} (h:∀p∈L1++(a,x) :: L2,plain p.2.text=true):∀p∈L1++jn a x L2,plain p.2.text=true:=by
 cases L2 with
 | nil=>exact h
 | cons q L=>
  obtain⟨b,y⟩:=q
  by_cases hj:x.joins y
  · rw [jn_yes hj]
    intro p hp
    rcases List.mem_append.1 hp with hp | hp
    · exact h p (by simp [hp])
    · rcases List.mem_cons.1 hp with rfl | hp
      · have h1:=h (a,x) (by simp)
        have h2:=h (b,y) (by simp)
        show plain (x.text++y.text)=true
        rw [plain_append];simp only []at h1 h2;rw [h1,h2];rfl
      · exact h p (by simp [hp])
  · rw [jn_no hj];exact h
theorem jn_flat (L1 L2:List (Nat×RunV)) (a:Nat) (x:RunV):flat ((L1++jn a x L2).map (·.2))=flat ((L1++(a,x) :: L2).map (·.2)):=by
 obtain⟨x',L',e,_,h,_⟩:=jn_head a x L2
 rw [e,List.map_append,List.map_append,flat_append,flat_append]
 simp only [List.map_cons]at h ⊢
 rw [h]
def Parts (y:RunV) (k:Nat) (L2:List (Nat×RunV)) (y':RunV) (T0:List (Nat×RunV)):Prop:=
 (1≤k∧k < y.text.length∧y'=y.fst k∧∃b,T0=(b,y.snd k) :: L2)∨(k=y.text.length∧y'=y∧T0=L2)
theorem Parts.ini {y y':RunV} {k:Nat} {L2 T0:List (Nat×RunV)} (h:Parts y k L2 y' T0):y'.ini=y.ini:=by
 rcases h with ⟨_,_,rfl,_⟩ | ⟨_,rfl,_⟩ <;> rfl
theorem Parts.tail {y y':RunV} {k:Nat} {L2 T0:List (Nat×RunV)} (h:Parts y k L2 y' T0) (hn:NJ (y :: L2.map (·.2))):NJ (T0.map (·.2)):=by
 rcases h with ⟨_,h2,rfl,b,rfl⟩ | ⟨_,rfl,rfl⟩
 · exact NJ_fin (snd_fin y (Nat.le_of_lt h2)).symm hn
 · exact NJ_tail hn
theorem Parts.flat {y y':RunV} {k:Nat} {L2 T0:List (Nat×RunV)} (h:Parts y k L2 y' T0):atomsOf y'=(atomsOf y).take k∧flat (T0.map (·.2))=(atomsOf y).drop k++Go.Proofs.YtlhlbamcgopiiaaGreatDoor.flat (L2.map (·.2)):=by
 rcases h with ⟨_,h2,rfl,b,rfl⟩ | ⟨h1,rfl,rfl⟩
 · refine⟨fst_atoms y k (Nat.le_of_lt h2),?_⟩
   rw [List.map_cons,flat_cons,snd_atoms y k (Nat.le_of_lt h2)]
 · rw [h1,List.take_of_length_le (by rw [atomsOf_len];exact Nat.le_refl _),List.drop_of_length_le (by rw [atomsOf_len];exact Nat.le_refl _)];simp
theorem Parts.plain {y y':RunV} {k a:Nat} {L1 L2 T0:List (Nat×RunV)} (h:Parts y k L2 y' T0) (hp:∀p∈L1++(a,y) :: L2,plain p.2.text=true):∀p∈L1++(a,y') :: T0,Go.Proofs.YtlhlbamcgopiiaaGreatDoor.plain p.2.text=true:=by
 have hy:=hp (a,y) (by simp)
 simp only []at hy
 have hy2:Go.Proofs.YtlhlbamcgopiiaaGreatDoor.plain (y.text.take k)=true∧Go.Proofs.YtlhlbamcgopiiaaGreatDoor.plain (y.text.drop k)=true:=by
  rw [←List.take_append_drop k y.text,plain_append]at hy
  simpa using hy
 rcases h with ⟨_,h2,rfl,b,rfl⟩ | ⟨h1,rfl,rfl⟩
 · intro p hpm
   simp only [List.mem_append,List.mem_cons]at hpm
   rcases hpm with h | rfl | rfl | h
   · exact hp p (by simp [h])
   · exact hy2.1
   · exact hy2.2
   · exact hp p (by simp [h])
 · exact hp
theorem put_final {L1 L2 T0:List (Nat×RunV)} {y y' x:RunV} {a n k:Nat} {A:List AtV} (hA:flat ((L1++(a,y) :: L2).map (·.2))=A) (hk:k≤y.text.length) (P:Parts y k L2 y' T0):
 flat ((L1++jn a y' (jn n x T0)).map (·.2))=A.take (atomsN (L1.map (·.2))+k)++atomsOf x++A.drop (atomsN (L1.map (·.2))+k)∧
 ((A.length≤1024→NJ ((L1++(a,y) :: L2).map (·.2)))→(A.take (atomsN (L1.map (·.2))+k)++atomsOf x++A.drop (atomsN (L1.map (·.2))+k)).length≤1024→NJ ((L1++jn a y' (jn n x T0)).map (·.2))):=by
 have hf:flat ((L1++jn a y' (jn n x T0)).map (·.2))=A.take (atomsN (L1.map (·.2))+k)++atomsOf x++A.drop (atomsN (L1.map (·.2))+k):=by
  obtain⟨f1,f2⟩:=flat_pos (L1:=L1) (L2:=L2) (a:=a) hk
  rw [hA]at f1 f2
  obtain⟨g1,g2⟩:=P.flat
  rw [f1,f2,jn_flat,List.map_append,List.map_cons,flat_append,flat_cons]
  have:=jn_flat [] T0 n x
  simp only [List.nil_append]at this
  rw [this,List.map_cons,flat_cons,g1,g2]
  simp
 refine⟨hf,fun hn hl=>?_⟩
 rw [←hf,flatten_length]at hl
 have hAl:A.length≤(A.take (atomsN (L1.map (·.2))+k)++atomsOf x++A.drop (atomsN (L1.map (·.2))+k)).length:=by
  have:=congrArg List.length (List.take_append_drop (atomsN (L1.map (·.2))+k) A)
  rw [List.length_append]at this
  simp only [List.length_append];omega
 have hl2:=hl
 rw [←hf,flatten_length]at hAl
 have hn:=hn (by omega)
 rw [List.map_append,List.map_cons]at hn
 obtain⟨n1,n2⟩:=NJ_split hn
 have eL:atomsN ((L1++jn a y' (jn n x T0)).map (·.2))=atomsN (L1.map (·.2))+atomsN ((jn a y' (jn n x T0)).map (·.2)):=by rw [List.map_append,atomsN_append]
 have e1:atomsN ((jn a y' (jn n x T0)).map (·.2))=atomsN (y' :: (jn n x T0).map (·.2)):=by
  apply atomsN_flat;have:=jn_flat [] (jn n x T0) a y';simpa using this
 have e2:atomsN ((jn n x T0).map (·.2))=atomsN (x :: T0.map (·.2)):=by
  apply atomsN_flat;have:=jn_flat [] T0 n x;simpa using this
 have e3:atomsN (y' :: (jn n x T0).map (·.2))=y'.text.length+atomsN ((jn n x T0).map (·.2)):=by simp [atomsN]
 have h1:=jn_NJ (a:=n) (x:=x) (L:=T0) (by omega) (P.tail n2)
 have h2:=jn_NJ (a:=a) (x:=y') (L:=jn n x T0) (by omega) h1
 obtain⟨y'',Z,ez,ei,_⟩:=jn_head a y' (jn n x T0)
 rw [ez]at h2 ⊢
 rw [List.map_append,List.map_cons]
 rw [List.map_cons]at h2
 exact NJ_glue (NJ_ini (by rw [ei];exact P.ini.symm) n1) h2
theorem Parts.apart {y y' x:RunV} {k a:Nat} {L1 L2 T0:List (Nat×RunV)} (P:Parts y k L2 y' T0) (h:∀p∈L1++(a,y) :: L2,p.2.apart x):∀p∈L1++(a,y') :: T0,p.2.apart x:=by
 have hy:=h (a,y) (by simp)
 simp only []at hy
 rcases P with ⟨_,h2,rfl,b,rfl⟩ | ⟨h1,rfl,rfl⟩
 · intro p hpm
   simp only [List.mem_append,List.mem_cons]at hpm
   rcases hpm with h1 | rfl | rfl | h1
   · exact h p (by simp [h1])
   · exact apart_symm (apart_within (apart_symm hy) (fst_within y k))
   · exact apart_symm (apart_within (apart_symm hy) (snd_within y (Nat.le_of_lt h2)))
   · exact h p (by simp [h1])
 · exact h
theorem Parts.rok {y y':RunV} {k a:Nat} {L1 L2 T0:List (Nat×RunV)} (P:Parts y k L2 y' T0) (R:Rok (L1++(a,y) :: L2)):Rok (L1++(a,y') :: T0):=by
 rcases P with ⟨h1,h2,rfl,b,rfl⟩ | ⟨h1,rfl,rfl⟩
 · exact R.cut h1 h2
 · exact R
theorem Parts.at_ {y y':RunV} {k a:Nat} {L1 L2 T0:List (Nat×RunV)} (P:Parts y k L2 y' T0):atomsN ((L1++(a,y') :: T0).map (·.2))=atomsN ((L1++(a,y) :: L2).map (·.2)):=by
 apply atomsN_flat
 obtain⟨g1,g2⟩:=P.flat
 rw [List.map_append,List.map_append,flat_append,flat_append,List.map_cons,List.map_cons,flat_cons,flat_cons,g1,g2,←List.append_assoc (List.take k _),List.take_append_drop]
section
variable {ro:Nat→Option (List AVal)}
theorem put_step {h:AHeap} {s:Nat} {m:AVal} {t:Rt RunV} {ix:Nat→List (Nat×RunV)} {x:RunV} {after:AVal} {L1 T0:List (Nat×RunV)} (S:Sx zT h s m t (· ∈t.items) ix) (R:Rok t.items) (hx:RunOk x) (hap:∀p∈t.items,p.2.apart x) (hat:t.at_≤65536)
 (hT:t.items=L1++T0) (haft:(L1=[]∧after=.nilp)∨∃L0 a y,L1=L0++[(a,y)]∧after=.ptr a 0) {Q:AVal→AHeap→Prop}
 (hq:∀n h1,(∀K:AVal→AHeap→Prop,(∀h2 m2 t2 ix2,Sx zT h2 s m2 t2 (· ∈t2.items) ix2→t2.items=L1++(n,x) :: T0→Stp h (SOwn h s m t) h2 (SOwn h2 s m2 t2)→Rok t2.items→K (.tuple []) h2)→Ev (cfgR ro) 189 [.ptr s 0,.ptr n 0] h1 K)→Q (.ptr n 0) h1):Ev (cfgR ro) 188 [.ptr s 0,after,.agg x.cells] h Q:=by
 have hfit:=fit_of R (Nat.le_trans hat (by decide))
 have hxl:=hx.len
 refine rope_put (z:=([],m :: zT)) (x:=x) S.rp hT ⟨by omega,by omega⟩ haft (fun n h1 t1 R1 e1 b1 k1 n1=>?_)
 refine hq n h1 (fun K hK=>?_)
 have hR1:Rok t1.items:=by
  rw [e1,Rok.iff];rw [hT]at R hap
  exact⟨R,hx,hap⟩
 obtain⟨S1,P1⟩:=S.tree R1 (fun p hp=>by
  rw [hT]at hp;rw [e1]
  simp only [List.mem_append,List.mem_cons]at hp ⊢
  rcases hp with h | h
  · exact .inl h
  · exact .inr (.inr h)) k1 n1 (fun o ho=>by
  unfold Rt.ids at ho ⊢
  rw [e1]at ho;rw [hT]
  simp only [List.map_append,List.map_cons,List.mem_append,List.mem_cons]at ho ⊢
  rcases ho with h | h | h
  · exact .inl (.inl h)
  · exact .inr (by omega)
  · exact .inl (.inr h))
 have hnb:¬(n,x)∈t.items:=fun hm=>by
  have:=S.rp.lt n (by unfold Rt.ids;exact List.mem_map.2 ⟨_,hm,rfl⟩)
  omega
 refine know_ev S1 hR1 (a:=n) (x:=x) (by rw [e1];simp) hnb (fun H2 m2 ix2 S2 P2=>?_)
 refine hK H2 m2 t1 ix2 (S2.congr (fun p=>?_)) e1 (P1.trans P2) hR1
 rw [e1,hT]
 simp only [List.mem_append,List.mem_cons]
 constructor
 · rintro((h | h) | h)
   · exact .inl h
   · exact .inr (.inr h)
   · exact .inr (.inl h)
 · rintro(h | h | h)
   · exact .inl (.inl h)
   · exact .inr h
   · exact .inl (.inr h)
theorem sput_ev (hro:ro 0=some [.int .u16 0,.int .u32 0]) {h:AHeap} {s:Nat} {O:Nat→Prop} {A:List AtV} {ar an:Nat} {x:RunV} (S:StA zT h s O A) (ha:an < 2 ^ 32) (hl:x.text.length < 2 ^ 60) (hn:x.n < 2 ^ 32) (he:x.en < 2 ^ 32) {Q:AVal→AHeap→Prop}
 (hq:∀h' O',StA zT h' s O' (putA A ar an x).1→Stp h O h' O'→Q (.int .i64 ((putA A ar an x).2:Nat)) h'):Ev (cfgR ro) 161 [.ptr s 0,idA ar an,.agg x.cells] h Q:=by
 refine Ev.wp rfl rfl Tryz.func161 rfl ?_
 simp -implicitDefEqProofs [Tryz.f161,idA,RunV.cells,same_self]
 refine rRight_ev (x:=x) hl hn he (fun h0 b o0 hb=>?_)
 obtain⟨O0,S0,P0⟩:=S.old o0
 have hq:∀h' O',StA zT h' s O' (putA A ar an x).1→Stp h0 O0 h' O'→Q (.int .i64 ((putA A ar an x).2:Nat)) h':=fun h' O' a b=>hq h' O' a (P0.trans b)
 clear P0
 cases b with
 | false=>
  have e:putA A ar an x=(A,11):=by unfold putA;rw [if_pos (fun hh=>by have:=hb.2 hh;cases this)]
  rw [e]at hq
  simp -implicitDefEqProofs [same_self]
  exact hq h0 O0 S0 (Stp.refl _ _)
 | true=>
  obtain⟨hx,hpl⟩:=hb.1 rfl
  obtain⟨m,t,ix,a1,a2,a3,a4,a5,a6,a7⟩:=S0
  have a5':flat (t.items.map (·.2))=A:=a5
  have hlen:A.length=t.at_:=by rw [←a5,flatten_length];rfl
  simp -implicitDefEqProofs [same_self]
  refine idRoot_ev hro ?_
  have e0:putA A ar an x=(match posA A ar an with
   | none=>(A,40)
   | some k=>if hitA A x=true then(A,16)else if 65536 < A.length+x.text.length then(A,21)else(A.take k++atomsOf x++A.drop k,0)):=by unfold putA;rw [if_neg (fun h=>h ⟨hx,hpl⟩)]
  rw [e0]at hq
  by_cases c:ar=0∧an=0
  · have hpos:posA A ar an=some 0:=by unfold posA;rw [if_pos c]
    have hdc:=decide_eq_true c
    rw [hdc]
    simp -implicitDefEqProofs [RunV.cells,same_self]
    refine free_ev a1 a2 hx (fun b hbf=>?_)
    have hit:=hit_iff a2 hx
    rw [a5']at hit
    cases b with
    | false=>
     have hh:hitA A x=true:=by
      cases e:hitA A x with
      | true=>rfl
      | false=>have:=hbf.2 (hit.1 e);cases this
     simp only [hpos,hh,if_true]at hq
     simp -implicitDefEqProofs [hdc,RunV.cells,same_self]
     exact hq h0 O0 ⟨m,t,ix,a1,a2,a3,a4,a5,a6,a7⟩ (Stp.refl _ _)
    | true=>
     have hap:=hbf.1 rfl
     have hh:hitA A x=false:=hit.2 hap
     simp only [hpos,hh]at hq
     have hxl:=hx.len
     simp -implicitDefEqProofs [hdc,RunV.cells,same_self]
     refine slen_ev a1 ?_
     simp -implicitDefEqProofs [hdc,RunV.cells,same_self]
     refine rlen_ev (x:=x) ?_
     have w1:IntKind.i64.wrap ((t.at_:Int)+(x.text.length:Int))=((A.length+x.text.length:Nat):Int):=by rw [w64 (by omega) (by omega)];omega
     obtain⟨tot,htot⟩:∃tot,tot=A.length+x.text.length:=⟨_,rfl⟩
     rw [←htot]at w1 hq
     by_cases cf:65536 < tot
     · have d1:decide ((65536:Int) < (tot:Int))=true:=decide_eq_true (by omega)
       simp only [cf,if_true,Bool.false_eq_true,if_false]at hq
       simp -implicitDefEqProofs [hdc,RunV.cells,same_self,w1,d1,cf]
       exact hq h0 O0 ⟨m,t,ix,a1,a2,a3,a4,a5,a6,a7⟩ (Stp.refl _ _)
     · have d1:decide ((65536:Int) < (tot:Int))=false:=decide_eq_false (by omega)
       simp only [cf,Bool.false_eq_true,if_false]at hq
       simp -implicitDefEqProofs [hdc,RunV.cells,same_self,w1,d1,cf]
       refine idRoot_ev hro ?_
       simp -implicitDefEqProofs [hdc,RunV.cells,same_self,w1,d1,cf]
       refine put_step (x:=x) (L1:=[]) (T0:=t.items) a1 a2 hx hap a4 rfl (.inl ⟨rfl,rfl⟩) (fun n h1 hk=>?_)
       simp -implicitDefEqProofs [hdc,RunV.cells,same_self,w1,d1,cf]
       refine hk _ (fun h2 m2 t2 ix2 S2 e2 P2 R2=>?_)
       have at2:t2.at_=x.text.length+t.at_:=by rw [at_items e2];simp [atomsN,Rt.at_,Rt.rs]
       simp -implicitDefEqProofs [hdc,RunV.cells,same_self,w1,d1,cf]
       refine join_ev (L1:=[]) S2 R2 e2 (by omega) (fun h3 t3 ix3 S3 e3 P3=>?_)
       simp -implicitDefEqProofs [hdc,RunV.cells,same_self,w1,d1,cf]
       refine join_nil ?_
       simp -implicitDefEqProofs
       have R3:Rok t3.items:=by rw [e3];exact jn_Rok (by rw [←e2];exact R2)
       have fl:=jn_flat [] t.items n x
       have fl3:flat t3.rs=atomsOf x++A:=by
        show flat (t3.items.map (·.2))=_
        rw [e3,fl];simp;exact a5'
       have pl3:∀p∈t3.items,plain p.2.text=true:=by
        rw [e3]
        refine jn_plain (fun p hp=>?_)
        rcases List.mem_cons.1 hp with rfl | hp
        · exact hpl
        · exact a3 p hp
       subst a7
       refine hq h3 _ ⟨m2,t3,ix3,S3,R3,pl3,?_,?_,fun hl=>?_,rfl⟩ (P2.trans P3)
       · have:t3.at_=(flat t3.rs).length:=by rw [flatten_length];rfl
         rw [this,fl3,List.length_append,atomsOf_len];omega
       · rw [fl3];simp
       · show NJ (t3.items.map (·.2))
         rw [e3]
         simp only [List.take_zero,List.nil_append,List.drop_zero,List.length_append,atomsOf_len]at hl
         refine jn_NJ ?_ (a6 (by omega))
         have:atomsN (x :: t.items.map (·.2))=x.text.length+t.at_:=by simp [atomsN,Rt.at_,Rt.rs]
         omega
  · have hdc:=decide_eq_false c
    rw [hdc]
    simp -implicitDefEqProofs [RunV.cells,same_self]
    have fp:∀L1 a y L2,t.items=L1++(a,y) :: L2→y.has ar an→posA A ar an=some (atomsN (L1.map (·.2))+(an - y.n)+1):=by
     intro L1 a y L2 e hh
     have:=pos_at (L1:=L1) (a:=a) (y:=y) (L2:=L2) (ar:=ar) (an:=an) (by rw [←e];exact a2) hh
     rw [←e,a5']at this
     unfold posA
     rw [if_neg c,this];rfl
    refine has_ev a1 a2 ha (fun b hbh=>?_)
    cases b with
    | false=>
     have hnone:posA A ar an=none:=by
      unfold posA;rw [if_neg c]
      have:atIx A ar an=none:=by
       rw [←a5']
       refine atIx_none.2 (fun y hy hh=>?_)
       obtain⟨p,hp,rfl⟩:=List.mem_map.1 hy
       have:=hbh.2 ⟨p,hp,hh⟩;cases this
      rw [this];rfl
     simp only [hnone]at hq
     simp -implicitDefEqProofs [RunV.cells,same_self]
     exact hq h0 O0 ⟨m,t,ix,a1,a2,a3,a4,a5,a6,a7⟩ (Stp.refl _ _)
    | true=>
     obtain⟨kp,hpos⟩:∃kp,posA A ar an=some kp:=by
      obtain⟨p,hp,hh⟩:=hbh.1 rfl
      obtain⟨L1,L2,e⟩:=List.append_of_mem hp
      exact⟨_,fp L1 p.1 p.2 L2 e hh⟩
     simp -implicitDefEqProofs [RunV.cells,same_self]
     refine free_ev a1 a2 hx (fun b hbf=>?_)
     have hit:=hit_iff a2 hx
     rw [a5']at hit
     cases b with
     | false=>
      have hh:hitA A x=true:=by
       cases e:hitA A x with
       | true=>rfl
       | false=>have:=hbf.2 (hit.1 e);cases this
      simp only [hpos,hh,if_true]at hq
      simp -implicitDefEqProofs [hdc,RunV.cells,same_self]
      exact hq h0 O0 ⟨m,t,ix,a1,a2,a3,a4,a5,a6,a7⟩ (Stp.refl _ _)
     | true=>
      have hap:=hbf.1 rfl
      have hh:hitA A x=false:=hit.2 hap
      simp only [hpos,hh]at hq
      have hxl:=hx.len
      simp -implicitDefEqProofs [hdc,RunV.cells,same_self]
      refine slen_ev a1 ?_
      simp -implicitDefEqProofs [hdc,RunV.cells,same_self]
      refine rlen_ev (x:=x) ?_
      have w1:IntKind.i64.wrap ((t.at_:Int)+(x.text.length:Int))=((A.length+x.text.length:Nat):Int):=by rw [w64 (by omega) (by omega)];omega
      obtain⟨tot,htot⟩:∃tot,tot=A.length+x.text.length:=⟨_,rfl⟩
      rw [←htot]at w1 hq
      by_cases cf:65536 < tot
      · have d1:decide ((65536:Int) < (tot:Int))=true:=decide_eq_true (by omega)
        simp only [cf,if_true,Bool.false_eq_true,if_false]at hq
        simp -implicitDefEqProofs [hdc,RunV.cells,same_self,w1,d1,cf]
        exact hq h0 O0 ⟨m,t,ix,a1,a2,a3,a4,a5,a6,a7⟩ (Stp.refl _ _)
      · have d1:decide ((65536:Int) < (tot:Int))=false:=decide_eq_false (by omega)
        simp only [cf,Bool.false_eq_true,if_false]at hq
        simp -implicitDefEqProofs [hdc,RunV.cells,same_self,w1,d1,cf]
        refine idRoot_ev hro ?_
        simp -implicitDefEqProofs [hdc,RunV.cells,same_self,w1,d1,cf]
        refine at_ev a1 a2 ha (fun L1 a y L2 hT hh=>?_) (fun hno=>?_)
        · obtain⟨k,hk⟩:∃k,k=an - y.n+1:=⟨_,rfl⟩
          have hky:1≤k∧k≤y.text.length:=by have:=hh.2;omega
          have hyl:=(a2.ok (a,y) (by rw [hT];simp)).len
          simp only []at hyl
          have w2:IntKind.i64.wrap (((an - y.n:Nat):Int)+1)=(k:Int):=by rw [w64 (by omega) (by omega)];omega
          have hkp:kp=atomsN (L1.map (·.2))+k:=by
           have:=fp L1 a y L2 hT hh
           rw [hpos]at this;injection this with this;omega
          have a5y:flat ((L1++(a,y) :: L2).map (·.2))=A:=by rw [←hT];exact a5'
          simp -implicitDefEqProofs [hdc,RunV.cells,same_self,w1,d1,cf,w2]
          refine cut_ev (k:=k) a1 a2 hT (by omega) (by omega) (fun c1 c2 h4 m4 t4 ix4 b S4 e4 P4=>?_) (fun c3=>?_)
          · have PP:Parts y k L2 (y.fst k) ((b,y.snd k) :: L2):=.inl ⟨c1,c2,rfl,b,rfl⟩
            have R4:Rok t4.items:=by rw [e4];rw [hT]at a2;exact PP.rok a2
            have hap4:∀p∈t4.items,p.2.apart x:=by rw [e4];rw [hT]at hap;exact PP.apart hap
            have at4:t4.at_=t.at_:=by rw [at_items e4,at_items hT];exact PP.at_
            have e4':t4.items=(L1++[(a,(y.fst k))])++((b,y.snd k) :: L2):=by rw [e4];simp
            simp -implicitDefEqProofs [hdc,RunV.cells,same_self,w1,d1,cf,w2]
            refine put_step (x:=x) S4 R4 hx hap4 (by omega) e4' (.inr ⟨L1,a,(y.fst k),rfl,rfl⟩) (fun n h1 hk1=>?_)
            simp -implicitDefEqProofs [hdc,RunV.cells,same_self,w1,d1,cf,w2]
            refine hk1 _ (fun h2 m2 t2 ix2 S2 e2 P2 R2=>?_)
            have at2:t2.at_=x.text.length+t.at_:=by
             rw [←at4,at_items e2,at_items e4'];simp [atomsN];omega
            simp -implicitDefEqProofs [hdc,RunV.cells,same_self,w1,d1,cf,w2]
            refine join_ev S2 R2 e2 (by omega) (fun h3 t3 ix3 S3 e3 P3=>?_)
            have R3:Rok t3.items:=by rw [e3];exact jn_Rok (by rw [←e2];exact R2)
            have e3':t3.items=L1++(a,(y.fst k)) :: jn n x ((b,y.snd k) :: L2):=by rw [e3];simp
            have at3:t3.at_=t2.at_:=by
             rw [at_items e3,at_items e2];exact atomsN_flat (jn_flat _ _ _ _)
            simp -implicitDefEqProofs [hdc,RunV.cells,same_self,w1,d1,cf,w2]
            refine join_ev S3 R3 e3' (by omega) (fun h5 t5 ix5 S5 e5 P5=>?_)
            have R5:Rok t5.items:=by rw [e5];exact jn_Rok (by rw [←e3'];exact R3)
            have at5:t5.at_=t3.at_:=by
             rw [at_items e5,at_items e3'];exact atomsN_flat (jn_flat _ _ _ _)
            obtain⟨f1,f2⟩:=put_final (x:=x) (n:=n) a5y hky.2 PP
            have pl5:∀p∈t5.items,plain p.2.text=true:=by
             rw [e5]
             refine jn_plain ?_
             have pl4:=PP.plain (a:=a) (L1:=L1) (by rw [←hT];exact a3)
             have:∀p∈(L1++[(a,(y.fst k))])++(n,x) :: ((b,y.snd k) :: L2),plain p.2.text=true:=by
              intro p hp
              simp only [List.append_assoc,List.mem_append,List.mem_cons,List.cons_append,List.nil_append]at hp pl4
              rcases hp with h | h | h | h
              · exact pl4 p (.inl h)
              · exact pl4 p (.inr (.inl h))
              · rw [h];exact hpl
              · exact pl4 p (.inr (.inr h))
             have:=jn_plain this
             simpa using this
            simp -implicitDefEqProofs
            subst a7
            refine hq h5 _ ⟨m2,t5,ix5,S5,R5,pl5,by omega,?_,fun hl=>?_,rfl⟩ (((P4.trans P2).trans P3).trans P5)
            · show flat (t5.items.map (·.2))=_
              rw [e5,hkp];exact f1
            · show NJ (t5.items.map (·.2))
              rw [e5]
              rw [hkp]at hl
              exact f2 (by rw [←hT];exact a6) hl
          · have PP:Parts y k L2 y L2:=.inr ⟨by omega,rfl,rfl⟩
            have R4:Rok t.items:=by rw [hT];rw [hT]at a2;exact PP.rok a2
            have hap4:∀p∈t.items,p.2.apart x:=by rw [hT];rw [hT]at hap;exact PP.apart hap
            have at4:t.at_=t.at_:=rfl
            have e4':t.items=(L1++[(a,y)])++L2:=by rw [hT];simp
            simp -implicitDefEqProofs [hdc,RunV.cells,same_self,w1,d1,cf,w2]
            refine put_step (x:=x) a1 R4 hx hap4 (by omega) e4' (.inr ⟨L1,a,y,rfl,rfl⟩) (fun n h1 hk1=>?_)
            simp -implicitDefEqProofs [hdc,RunV.cells,same_self,w1,d1,cf,w2]
            refine hk1 _ (fun h2 m2 t2 ix2 S2 e2 P2 R2=>?_)
            have at2:t2.at_=x.text.length+t.at_:=by
             rw [←at4,at_items e2,at_items e4'];simp [atomsN];omega
            simp -implicitDefEqProofs [hdc,RunV.cells,same_self,w1,d1,cf,w2]
            refine join_ev S2 R2 e2 (by omega) (fun h3 t3 ix3 S3 e3 P3=>?_)
            have R3:Rok t3.items:=by rw [e3];exact jn_Rok (by rw [←e2];exact R2)
            have e3':t3.items=L1++(a,y) :: jn n x L2:=by rw [e3];simp
            have at3:t3.at_=t2.at_:=by
             rw [at_items e3,at_items e2];exact atomsN_flat (jn_flat _ _ _ _)
            simp -implicitDefEqProofs [hdc,RunV.cells,same_self,w1,d1,cf,w2]
            refine join_ev S3 R3 e3' (by omega) (fun h5 t5 ix5 S5 e5 P5=>?_)
            have R5:Rok t5.items:=by rw [e5];exact jn_Rok (by rw [←e3'];exact R3)
            have at5:t5.at_=t3.at_:=by
             rw [at_items e5,at_items e3'];exact atomsN_flat (jn_flat _ _ _ _)
            obtain⟨f1,f2⟩:=put_final (x:=x) (n:=n) a5y hky.2 PP
            have pl5:∀p∈t5.items,plain p.2.text=true:=by
             rw [e5]
             refine jn_plain ?_
             have pl4:=PP.plain (a:=a) (L1:=L1) (by rw [←hT];exact a3)
             have:∀p∈(L1++[(a,y)])++(n,x) :: L2,plain p.2.text=true:=by
              intro p hp
              simp only [List.append_assoc,List.mem_append,List.mem_cons,List.cons_append,List.nil_append]at hp pl4
              rcases hp with h | h | h | h
              · exact pl4 p (.inl h)
              · exact pl4 p (.inr (.inl h))
              · rw [h];exact hpl
              · exact pl4 p (.inr (.inr h))
             have:=jn_plain this
             simpa using this
            simp -implicitDefEqProofs
            subst a7
            refine hq h5 _ ⟨m2,t5,ix5,S5,R5,pl5,by omega,?_,fun hl=>?_,rfl⟩ ((P2.trans P3).trans P5)
            · show flat (t5.items.map (·.2))=_
              rw [e5,hkp];exact f1
            · show NJ (t5.items.map (·.2))
              rw [e5]
              rw [hkp]at hl
              exact f2 (by rw [←hT];exact a6) hl
        · obtain⟨p,hp,hh⟩:=hbh.1 rfl
          exact(hno p hp hh).elim
end
end Go.Proofs.YtlhlbamcgopiiaaGreatDoor
set_option linter.all false
set_option maxRecDepth 100000
set_option maxHeartbeats 4000000
namespace Go.Proofs.YtlhlbamcgopiiaaGreatDoor
open Go Go.RowKit Go.Proofs
variable {zT:List AVal}
def setSh:List AtV→Nat→Bool→List AtV
 | [],_,_=>[]
 | a :: l,0,v=>{ a with shown:=v } :: l
 | a :: l,i+1,v=>a :: setSh l i v
theorem setSh_append (A B:List AtV) (i:Nat) (v:Bool):setSh (A++B) (A.length+i) v=A++setSh B i v:=by
 induction A with
 | nil=>simp
 | cons a A ih=>rw [List.length_cons,show A.length+1+i=A.length+i+1 by omega];show a :: setSh (A++B) (A.length+i) v=_;rw [ih];rfl
theorem setSh_len (A:List AtV) (i:Nat) (v:Bool):(setSh A i v).length=A.length:=by
 induction A generalizing i with
 | nil=>rfl
 | cons a A ih=>cases i with
  | zero=>rfl
  | succ i=>show(setSh A i v).length+1=_;rw [ih];rfl
theorem setSh_id:∀(A:List AtV) (i:Nat) (v:Bool),(∀a,A[i]?=some a→a.shown=v)→setSh A i v=A
 | [],_,_,_=>rfl
 | a :: A,0,v,h=>by
  have:=h a rfl
  show { a with shown:=v } :: A=_
  rw [←this]
 | a :: A,i+1,v,h=>by
  show a :: setSh A i v=_
  rw [setSh_id A i v (fun b hb=>h b hb)]
def showA (A:List AtV) (ar an:Nat) (v:Bool):List AtV×Nat:=match atIx A ar an with
 | none=>(A,40)
 | some i=>(setSh A i v,0)
def RunV.sh (x:RunV) (v:Bool):RunV:={ x with shown:=v }
theorem sh_atoms {x:RunV} (h:x.text.length=1) (v:Bool) (l:List AtV):atomsOf (x.sh v)++l=setSh (atomsOf x++l) 0 v:=by
 obtain⟨c,r,n,er,en,tx,sh⟩:=x
 cases tx with
 | nil=>simp at h
 | cons b s=>
  have:s=[]:=by simpa using h
  subst this
  rfl
theorem sh_within (x:RunV) (v:Bool):(x.sh v).within x:=⟨rfl,Nat.le_refl _,Nat.le_refl _⟩
theorem RunOk.sh {x:RunV} (h:RunOk x) (v:Bool):RunOk (x.sh v):=⟨h.pos,h.len,h.n1,h.n2,h.e1,h.e2⟩
theorem show_flat {Pre T0:List (Nat×RunV)} {p:Nat} {mid:RunV} {A:List AtV} {v:Bool} (hA:flat ((Pre++(p,mid) :: T0).map (·.2))=A) (hm:mid.text.length=1):
 flat ((Pre++jn p (mid.sh v) T0).map (·.2))=setSh A (atomsN (Pre.map (·.2))) v:=by
 rw [jn_flat,←hA,List.map_append,List.map_append,flat_append,flat_append,List.map_cons,List.map_cons,flat_cons,flat_cons,sh_atoms hm,←flatten_length]
 rw [←setSh_append];rfl
section
variable {ro:Nat→Option (List AVal)}
theorem sshow_ev {h:AHeap} {s:Nat} {O:Nat→Prop} {A:List AtV} {ar an:Nat} {v:Bool} (S:StA zT h s O A) (ha:an < 2 ^ 32) {Q:AVal→AHeap→Prop}
 (hq:∀h' O',StA zT h' s O' (showA A ar an v).1→Stp h O h' O'→Q (.int .i64 ((showA A ar an v).2:Nat)) h'):Ev (cfgR ro) 122 [.ptr s 0,idA ar an,.bool v] h Q:=by
 refine Ev.wp rfl rfl Tryz.func122 rfl ?_
 obtain⟨m,t,ix,a1,a2,a3,a4,a5,a6,a7⟩:=S
 have a5':flat (t.items.map (·.2))=A:=a5
 have hlen:A.length=t.at_:=by rw [←a5,flatten_length];rfl
 simp -implicitDefEqProofs [Tryz.f122,idA,same_self]
 refine at_ev a1 a2 ha (fun L1 a y L2 hT hh=>?_) (fun hno=>?_)
 · obtain⟨k,hk⟩:∃k,k=an - y.n:=⟨_,rfl⟩
   have hky:k < y.text.length:=by have:=hh.2;omega
   have hyok:=a2.ok (a,y) (by rw [hT];simp)
   have hyl:=hyok.len
   simp only []at hyl
   have a5y:flat ((L1++(a,y) :: L2).map (·.2))=A:=by rw [←hT];exact a5'
   have hpos:atIx A ar an=some (atomsN (L1.map (·.2))+k):=by
    have:=pos_at (L1:=L1) (a:=a) (y:=y) (L2:=L2) (ar:=ar) (an:=an) (by rw [←hT];exact a2) hh
    rw [a5y]at this;rw [this,hk]
   have e0:showA A ar an v=(setSh A (atomsN (L1.map (·.2))+k) v,0):=by unfold showA;rw [hpos]
   rw [e0]at hq
   obtain⟨u,l,r,ht,sz,all,hn⟩:=At.item (p:=a) (x:=y) a1.rp.tree (by rw [hT];simp)
   rw [←hk]
   have eb:eqFlat Tryz.prog h .bool (.bool y.shown) (.bool v)=.ok (y.shown == v):=by rfl
   simp -implicitDefEqProofs [same_self]
   refine item_ev hn ?_
   by_cases c:y.shown=v
   · have eb2:(y.shown == v)=true:=by simpa using c
     rw [eb2]at eb
     simp -implicitDefEqProofs [same_self,RunV.cells,eb]
     refine hq h O ⟨m,t,ix,a1,a2,a3,a4,?_,fun hl=>a6 (by rw [setSh_len]at hl;exact hl),a7⟩ (Stp.refl _ _)
     rw [a5,setSh_id]
     intro x hx
     rw [←a5y,List.map_append,List.map_cons,flat_append,flat_cons,←flatten_length,List.getElem?_append_right (by omega),Nat.add_sub_cancel_left,List.getElem?_append_left (by rw [atomsOf_len];exact hky),atomsOf_get]at hx
     cases hy:y.text[k]? with
     | none=>rw [hy]at hx;cases hx
     | some b=>rw [hy]at hx;cases hx;exact c
   · have eb2:(y.shown == v)=false:=by simpa using c
     rw [eb2]at eb
     have w1:IntKind.i64.wrap ((k:Int)+1)=((k+1:Nat):Int):=by rw [w64 (by omega) (by omega)];omega
     obtain⟨k1,hk1⟩:∃k1,k1=k+1:=⟨_,rfl⟩
     rw [←hk1]at w1
     simp -implicitDefEqProofs [same_self,RunV.cells,eb,w1]
     subst a7
     refine cut_ev (k:=k1) a1 a2 hT (by omega) (by omega) (fun c1 c2 h1 m1 t1 ix1 b1 S1 e1 P1=>?_) (fun c3=>?_)
     · have PP:Parts y k1 L2 (y.fst k1) ((b1,y.snd k1) :: L2):=.inl ⟨c1,c2,rfl,b1,rfl⟩
       have y1l:(y.fst k1).text.length=k+1:=by simp [RunV.fst];omega
       obtain⟨y1,hy1⟩:∃y1,y1=y.fst k1:=⟨_,rfl⟩
       obtain⟨T0,hT0⟩:∃T0,T0=(b1,y.snd k1) :: L2:=⟨_,rfl⟩
       rw [←hy1,←hT0]at e1 PP
       rw [←hy1]at y1l
       have R1:Rok t1.items:=by rw [e1];rw [hT]at a2;exact PP.rok a2
       have at1:t1.at_=t.at_:=by rw [at_items e1,at_items hT];exact PP.at_
       have pl1:=PP.plain (a:=a) (L1:=L1) (by rw [←hT];exact a3)
       have f1:flat ((L1++(a,y1) :: T0).map (·.2))=A:=by
        obtain⟨g1,g2⟩:=PP.flat
        rw [←a5y,List.map_append,List.map_append,flat_append,flat_append,List.map_cons,List.map_cons,flat_cons,flat_cons,g1,g2,←List.append_assoc (List.take k1 _),List.take_append_drop]
       have ini1:=PP.ini
       have nj1:A.length≤1024→NJ (L1.map (·.2)++[y1])∧NJ (T0.map (·.2)):=fun hl=>by
        have:=a6 hl
        have:NJ (t.items.map (·.2)):=this
        rw [hT,List.map_append,List.map_cons]at this
        obtain⟨n1,n2⟩:=NJ_split this
        exact⟨NJ_ini (by rw [ini1]) n1,PP.tail n2⟩
       by_cases k0:0 < k
       · have d0:decide ((0:Int) < (k:Int))=true:=decide_eq_true (by omega)
         simp -implicitDefEqProofs [same_self,RunV.cells,w1,d0,k0]
         refine cut_ev (k:=k) S1 R1 e1 (by omega) (by omega) (fun c4 c5 h2 m2 t2 ix2 b S2 e2 P2=>?_) (fun c6=>absurd c6 (by omega))
         have R2:Rok t2.items:=by rw [e2];rw [e1]at R1;exact R1.cut c4 c5
         obtain⟨mid,hmid⟩:∃mid,mid=y1.snd k:=⟨_,rfl⟩
         rw [←hmid]at e2
         have hml:mid.text.length=1:=by rw [hmid];simp [RunV.snd];omega
         have e2':t2.items=(L1++[(a,y1.fst k)])++(b,mid) :: T0:=by rw [e2];simp
         have f2:flat (((L1++[(a,y1.fst k)])++(b,mid) :: T0).map (·.2))=A:=by
          rw [←f1,hmid];simp [flat_append]
          rw [←List.append_assoc (atomsOf (y1.fst k)),cut_atoms y1 k (by omega)]
         have hi:atomsN ((L1++[(a,y1.fst k)]).map (·.2))=atomsN (L1.map (·.2))+k:=by
          rw [List.map_append,atomsN_append];simp [atomsN,RunV.fst];omega
         have nj2:A.length≤1024→NJ ((L1++[(a,y1.fst k)]).map (·.2)):=fun hl=>by
          rw [List.map_append];exact NJ_ini (by rfl) (nj1 hl).1
         have pl2:∀q∈(L1++[(a,y1.fst k)])++(b,mid.sh v) :: T0,plain q.2.text=true:=by
          have h1:=pl1 (a,y1) (by simp)
          simp only []at h1
          rw [←List.take_append_drop k y1.text,plain_append]at h1
          simp at h1
          intro q hq
          simp only [List.append_assoc,List.mem_append,List.mem_cons,List.cons_append,List.nil_append]at hq
          rcases hq with h | h | h | h
          · exact pl1 q (by simp [h])
          · rw [h];exact h1.1
          · rw [h,hmid];exact h1.2
          · exact pl1 q (by simp [h])
         simp -implicitDefEqProofs [same_self,RunV.cells,w1,d0,k0]
         refine rope_next S2.rp.tree S2.rp.nd e2 ?_
         simp -implicitDefEqProofs [same_self,RunV.cells,w1,d0,k0,headP]
         have at2:t2.at_≤65536:=by
          have:t2.at_=A.length:=by rw [at_items e2',←flatten_length];rw [f2]
          omega
         obtain⟨u2,l2,r2,ht2,sz2,all2,hn2⟩:=At.item (p:=b) (x:=mid) S2.rp.tree (by rw [e2'];simp)
         refine item_ev hn2 ?_
         simp -implicitDefEqProofs [same_self,RunV.cells]
         refine rope_set (z:=([],m2 :: zT)) (x:=mid.sh v) S2.rp e2' ⟨by have:=(fit_of R2 (by omega)).1;omega,by have:=(fit_of R2 (by omega)).2.1;have:(mid.sh v).text.length=mid.text.length:=rfl;omega⟩ (fun h3 t3 R3p e3 k3 n3=>?_)
         obtain⟨ix3,S3,P3⟩:=S2.set (t':=t3) (z:=mid.sh v) e2' e3 rfl rfl R3p k3 n3
         have R3:Rok t3.items:=by rw [e3];have hr:=R2;rw [e2']at hr;exact hr.set ((hr.ok (b,mid) (by simp)).sh v) (sh_within _ _)
         have at3:t3.at_=t2.at_:=by rw [at_items e3,at_items e2'];simp [atomsN,RunV.sh]
         simp -implicitDefEqProofs [same_self,RunV.cells]
         refine join_ev S3 R3 e3 (by omega) (fun h4 t4 ix4 S4 e4 P4=>?_)
         have R4:Rok t4.items:=by rw [e4];exact jn_Rok (by rw [←e3];exact R3)
         have f4:flat (t4.items.map (·.2))=setSh A (atomsN (L1.map (·.2))+k) v:=by rw [e4,show_flat f2 hml];exact congrArg (fun i=>setSh A i v) hi
         have at4:t4.at_=A.length:=by rw [at_items rfl,←flatten_length,f4,setSh_len]
         have pl4:∀q∈t4.items,plain q.2.text=true:=by rw [e4];exact jn_plain pl2
         obtain⟨x',T1,z1,z2,z3,z4,z5,z6⟩:=jn_head b (mid.sh v) T0
         have nj4:A.length≤1024→NJ ((jn b (mid.sh v) T0).map (·.2)):=fun hl=>by
          refine jn_NJ ?_ (nj1 hl).2
          have h5:atomsN ((mid.sh v) :: T0.map (·.2))=mid.text.length+atomsN (T0.map (·.2)):=by simp [atomsN,RunV.sh]
          have h6:A.length=atomsN (((L1++[(a,y1.fst k)])).map (·.2))+mid.text.length+atomsN (T0.map (·.2)):=by rw [←atomsN_mid (L1++[(a,y1.fst k)]) T0 (b,mid),←flatten_length,f2]
          omega
         have e4z:=e4
         rw [z1]at e4z nj4
         simp -implicitDefEqProofs [same_self,RunV.cells]
         refine rope_prev S4.rp.tree S4.rp.nd e4z ?_
         have hlast:lastOf (L1++[(a,y1.fst k)])=.ptr a 0:=by simp [lastOf]
         simp -implicitDefEqProofs [hlast]
         have e4q:t4.items=L1++(a,y1.fst k) :: (b,x') :: T1:=by rw [e4z];simp
         refine join_ev S4 R4 e4q (by omega) (fun h5 t5 ix5 S5 e5 P5=>?_)
         have R5:Rok t5.items:=by rw [e5];exact jn_Rok (by rw [←e4q];exact R4)
         have f5:flat (t5.items.map (·.2))=setSh A (atomsN (L1.map (·.2))+k) v:=by rw [e5,jn_flat,←f4,e4q]
         have at5:t5.at_=A.length:=by rw [at_items rfl,←flatten_length,f5,setSh_len]
         simp -implicitDefEqProofs
         refine hq h5 _ ⟨m2,t5,ix5,S5,R5,?_,by omega,f5,fun hl=>?_,rfl⟩ ((((P1.trans P2).trans P3).trans P4).trans P5)
         · rw [e5];exact jn_plain (by rw [←e4q];exact pl4)
         · show NJ (t5.items.map (·.2))
           rw [setSh_len]at hl
           have h5:atomsN (y1.fst k :: ((b,x') :: T1).map (·.2))≤1024:=by
            have h6:t4.at_=atomsN (L1.map (·.2))+(y1.fst k).text.length+atomsN (((b,x') :: T1).map (·.2)):=by rw [at_items e4q,atomsN_mid]
            have h7:atomsN (y1.fst k :: ((b,x') :: T1).map (·.2))=(y1.fst k).text.length+atomsN (((b,x') :: T1).map (·.2)):=by simp [atomsN]
            omega
           have nj5:=jn_NJ (a:=a) h5 (nj4 hl)
           obtain⟨z',Z,y1_,y2_,_⟩:=jn_head a (y1.fst k) ((b,x') :: T1)
           rw [e5,y1_,List.map_append,List.map_cons]
           rw [y1_,List.map_cons]at nj5
           have:=nj2 hl
           rw [List.map_append]at this
           exact NJ_glue (NJ_ini (by rw [y2_]) this) nj5
       · have k00:k=0:=by omega
         have d0:decide ((0:Int) < (k:Int))=false:=decide_eq_false (by omega)
         simp -implicitDefEqProofs [same_self,RunV.cells,w1,d0,k00]
         have hml:y1.text.length=1:=by omega
         have hi:atomsN (L1.map (·.2))=atomsN (L1.map (·.2))+k:=by omega
         have nj2:A.length≤1024→NJ (L1.map (·.2)):=fun hl=>NJ_left _ _ (nj1 hl).1
         have pl2:∀q∈L1++(a,y1.sh v) :: T0,plain q.2.text=true:=by
          intro q hq
          simp only [List.mem_append,List.mem_cons]at hq
          rcases hq with h | h | h
          · exact pl1 q (by simp [h])
          · rw [h];exact pl1 (a,y1) (by simp)
          · exact pl1 q (by simp [h])
         have at2:t1.at_≤65536:=by
          have:t1.at_=A.length:=by rw [at_items e1,←flatten_length];rw [f1]
          omega
         obtain⟨u2,l2,r2,ht2,sz2,all2,hn2⟩:=At.item (p:=a) (x:=y1) S1.rp.tree (by rw [e1];simp)
         refine item_ev hn2 ?_
         simp -implicitDefEqProofs [same_self,RunV.cells]
         refine rope_set (z:=([],m1 :: zT)) (x:=y1.sh v) S1.rp e1 ⟨by have:=(fit_of R1 (by omega)).1;omega,by have:=(fit_of R1 (by omega)).2.1;have:(y1.sh v).text.length=y1.text.length:=rfl;omega⟩ (fun h3 t3 R3p e3 k3 n3=>?_)
         obtain⟨ix3,S3,P3⟩:=S1.set (t':=t3) (z:=y1.sh v) e1 e3 rfl rfl R3p k3 n3
         have R3:Rok t3.items:=by rw [e3];have hr:=R1;rw [e1]at hr;exact hr.set ((hr.ok (a,y1) (by simp)).sh v) (sh_within _ _)
         have at3:t3.at_=t1.at_:=by rw [at_items e3,at_items e1];simp [atomsN,RunV.sh]
         simp -implicitDefEqProofs [same_self,RunV.cells]
         refine join_ev S3 R3 e3 (by omega) (fun h4 t4 ix4 S4 e4 P4=>?_)
         have R4:Rok t4.items:=by rw [e4];exact jn_Rok (by rw [←e3];exact R3)
         have f4:flat (t4.items.map (·.2))=setSh A (atomsN (L1.map (·.2))+k) v:=by rw [e4,show_flat f1 hml];exact congrArg (fun i=>setSh A i v) hi
         have at4:t4.at_=A.length:=by rw [at_items rfl,←flatten_length,f4,setSh_len]
         have pl4:∀q∈t4.items,plain q.2.text=true:=by rw [e4];exact jn_plain pl2
         obtain⟨x',T1,z1,z2,z3,z4,z5,z6⟩:=jn_head a (y1.sh v) T0
         have nj4:A.length≤1024→NJ ((jn a (y1.sh v) T0).map (·.2)):=fun hl=>by
          refine jn_NJ ?_ (nj1 hl).2
          have h5:atomsN ((y1.sh v) :: T0.map (·.2))=y1.text.length+atomsN (T0.map (·.2)):=by simp [atomsN,RunV.sh]
          have h6:A.length=atomsN ((L1).map (·.2))+y1.text.length+atomsN (T0.map (·.2)):=by rw [←atomsN_mid L1 T0 (a,y1),←flatten_length,f1]
          omega
         have e4z:=e4
         rw [z1]at e4z nj4
         simp -implicitDefEqProofs [same_self,RunV.cells]
         refine rope_prev S4.rp.tree S4.rp.nd e4z ?_
         rcases List.eq_nil_or_concat L1 with hL | ⟨P0,q,hL⟩
         · subst hL
           simp -implicitDefEqProofs [lastOf]
           refine join_nil ?_
           simp -implicitDefEqProofs
           refine hq h4 _ ⟨m1,t4,ix4,S4,R4,pl4,by omega,f4,fun hl=>?_,rfl⟩ ((P1.trans P3).trans P4)
           show NJ (t4.items.map (·.2))
           rw [e4z]
           rw [setSh_len]at hl
           exact nj4 hl
         · obtain⟨q,z⟩:=q
           rw [List.concat_eq_append]at hL
           subst hL
           have hlast:lastOf (P0++[(q,z)])=.ptr q 0:=by simp [lastOf]
           simp -implicitDefEqProofs [hlast]
           have e4q:t4.items=P0++(q,z) :: (a,x') :: T1:=by rw [e4z];simp
           refine join_ev S4 R4 e4q (by omega) (fun h5 t5 ix5 S5 e5 P5=>?_)
           have R5:Rok t5.items:=by rw [e5];exact jn_Rok (by rw [←e4q];exact R4)
           have f5:flat (t5.items.map (·.2))=setSh A (atomsN ((P0++[(q,z)]).map (·.2))+k) v:=by rw [e5,jn_flat,←f4,e4q]
           have at5:t5.at_=A.length:=by rw [at_items rfl,←flatten_length,f5,setSh_len]
           simp -implicitDefEqProofs
           refine hq h5 _ ⟨m1,t5,ix5,S5,R5,?_,by omega,f5,fun hl=>?_,rfl⟩ (((P1.trans P3).trans P4).trans P5)
           · rw [e5];exact jn_plain (by rw [←e4q];exact pl4)
           · show NJ (t5.items.map (·.2))
             rw [setSh_len]at hl
             have h5:atomsN (z :: ((a,x') :: T1).map (·.2))≤1024:=by
              have h6:t4.at_=atomsN (P0.map (·.2))+z.text.length+atomsN (((a,x') :: T1).map (·.2)):=by rw [at_items e4q,atomsN_mid]
              have h7:atomsN (z :: ((a,x') :: T1).map (·.2))=z.text.length+atomsN (((a,x') :: T1).map (·.2)):=by simp [atomsN]
              omega
             have nj5:=jn_NJ (a:=q) h5 (nj4 hl)
             obtain⟨z',Z,y1_,y2_,_⟩:=jn_head q z ((a,x') :: T1)
             rw [e5,y1_,List.map_append,List.map_cons]
             rw [y1_,List.map_cons]at nj5
             have:=nj2 hl
             rw [List.map_append]at this
             exact NJ_glue (NJ_ini (by rw [y2_]) this) nj5
     · have PP:Parts y k1 L2 y L2:=.inr ⟨by omega,rfl,rfl⟩
       have y1l:y.text.length=k+1:=by omega
       obtain⟨h1,hh1⟩:∃h1,h1=h:=⟨_,rfl⟩
       have S1:=a1
       have P1:=Stp.refl h (SOwn h s m t)
       have e1:=hT
       rw [←hh1]at S1
       rw [←hh1]
       have P1:Stp h (SOwn h s m t) h1 (SOwn h1 s m t):=by rw [hh1];exact P1
       obtain⟨t1,ht1⟩:∃t1,t1=t:=⟨_,rfl⟩
       rw [←ht1]at S1 e1
       have P1:Stp h (SOwn h s m t) h1 (SOwn h1 s m t1):=by rw [ht1];exact P1
       obtain⟨m1,hm1⟩:∃m1,m1=m:=⟨_,rfl⟩
       rw [←hm1]at S1
       have P1:Stp h (SOwn h s m t) h1 (SOwn h1 s m1 t1):=by rw [hm1];exact P1
       obtain⟨y1,hy1⟩:∃y1,y1=y:=⟨_,rfl⟩
       obtain⟨T0,hT0⟩:∃T0,T0=L2:=⟨_,rfl⟩
       have PP:Parts y k1 L2 y1 T0:=by rw [hy1,hT0];exact PP
       have e1:t1.items=L1++(a,y1) :: T0:=by rw [hy1,hT0];exact e1
       have y1l:y1.text.length=k+1:=by rw [hy1];exact y1l
       have R1:Rok t1.items:=by rw [e1];rw [hT]at a2;exact PP.rok a2
       have at1:t1.at_=t.at_:=by rw [at_items e1,at_items hT];exact PP.at_
       have pl1:=PP.plain (a:=a) (L1:=L1) (by rw [←hT];exact a3)
       have f1:flat ((L1++(a,y1) :: T0).map (·.2))=A:=by
        obtain⟨g1,g2⟩:=PP.flat
        rw [←a5y,List.map_append,List.map_append,flat_append,flat_append,List.map_cons,List.map_cons,flat_cons,flat_cons,g1,g2,←List.append_assoc (List.take k1 _),List.take_append_drop]
       have ini1:=PP.ini
       have nj1:A.length≤1024→NJ (L1.map (·.2)++[y1])∧NJ (T0.map (·.2)):=fun hl=>by
        have:=a6 hl
        have:NJ (t.items.map (·.2)):=this
        rw [hT,List.map_append,List.map_cons]at this
        obtain⟨n1,n2⟩:=NJ_split this
        exact⟨NJ_ini (by rw [ini1]) n1,PP.tail n2⟩
       by_cases k0:0 < k
       · have d0:decide ((0:Int) < (k:Int))=true:=decide_eq_true (by omega)
         simp -implicitDefEqProofs [same_self,RunV.cells,w1,d0,k0]
         refine cut_ev (k:=k) S1 R1 e1 (by omega) (by omega) (fun c4 c5 h2 m2 t2 ix2 b S2 e2 P2=>?_) (fun c6=>absurd c6 (by omega))
         have R2:Rok t2.items:=by rw [e2];rw [e1]at R1;exact R1.cut c4 c5
         obtain⟨mid,hmid⟩:∃mid,mid=y1.snd k:=⟨_,rfl⟩
         rw [←hmid]at e2
         have hml:mid.text.length=1:=by rw [hmid];simp [RunV.snd];omega
         have e2':t2.items=(L1++[(a,y1.fst k)])++(b,mid) :: T0:=by rw [e2];simp
         have f2:flat (((L1++[(a,y1.fst k)])++(b,mid) :: T0).map (·.2))=A:=by
          rw [←f1,hmid];simp [flat_append]
          rw [←List.append_assoc (atomsOf (y1.fst k)),cut_atoms y1 k (by omega)]
         have hi:atomsN ((L1++[(a,y1.fst k)]).map (·.2))=atomsN (L1.map (·.2))+k:=by
          rw [List.map_append,atomsN_append];simp [atomsN,RunV.fst];omega
         have nj2:A.length≤1024→NJ ((L1++[(a,y1.fst k)]).map (·.2)):=fun hl=>by
          rw [List.map_append];exact NJ_ini (by rfl) (nj1 hl).1
         have pl2:∀q∈(L1++[(a,y1.fst k)])++(b,mid.sh v) :: T0,plain q.2.text=true:=by
          have h1:=pl1 (a,y1) (by simp)
          simp only []at h1
          rw [←List.take_append_drop k y1.text,plain_append]at h1
          simp at h1
          intro q hq
          simp only [List.append_assoc,List.mem_append,List.mem_cons,List.cons_append,List.nil_append]at hq
          rcases hq with h | h | h | h
          · exact pl1 q (by simp [h])
          · rw [h];exact h1.1
          · rw [h,hmid];exact h1.2
          · exact pl1 q (by simp [h])
         simp -implicitDefEqProofs [same_self,RunV.cells,w1,d0,k0]
         refine rope_next S2.rp.tree S2.rp.nd e2 ?_
         simp -implicitDefEqProofs [same_self,RunV.cells,w1,d0,k0,headP]
         have at2:t2.at_≤65536:=by
          have:t2.at_=A.length:=by rw [at_items e2',←flatten_length];rw [f2]
          omega
         obtain⟨u2,l2,r2,ht2,sz2,all2,hn2⟩:=At.item (p:=b) (x:=mid) S2.rp.tree (by rw [e2'];simp)
         refine item_ev hn2 ?_
         simp -implicitDefEqProofs [same_self,RunV.cells]
         refine rope_set (z:=([],m2 :: zT)) (x:=mid.sh v) S2.rp e2' ⟨by have:=(fit_of R2 (by omega)).1;omega,by have:=(fit_of R2 (by omega)).2.1;have:(mid.sh v).text.length=mid.text.length:=rfl;omega⟩ (fun h3 t3 R3p e3 k3 n3=>?_)
         obtain⟨ix3,S3,P3⟩:=S2.set (t':=t3) (z:=mid.sh v) e2' e3 rfl rfl R3p k3 n3
         have R3:Rok t3.items:=by rw [e3];have hr:=R2;rw [e2']at hr;exact hr.set ((hr.ok (b,mid) (by simp)).sh v) (sh_within _ _)
         have at3:t3.at_=t2.at_:=by rw [at_items e3,at_items e2'];simp [atomsN,RunV.sh]
         simp -implicitDefEqProofs [same_self,RunV.cells]
         refine join_ev S3 R3 e3 (by omega) (fun h4 t4 ix4 S4 e4 P4=>?_)
         have R4:Rok t4.items:=by rw [e4];exact jn_Rok (by rw [←e3];exact R3)
         have f4:flat (t4.items.map (·.2))=setSh A (atomsN (L1.map (·.2))+k) v:=by rw [e4,show_flat f2 hml];exact congrArg (fun i=>setSh A i v) hi
         have at4:t4.at_=A.length:=by rw [at_items rfl,←flatten_length,f4,setSh_len]
         have pl4:∀q∈t4.items,plain q.2.text=true:=by rw [e4];exact jn_plain pl2
         obtain⟨x',T1,z1,z2,z3,z4,z5,z6⟩:=jn_head b (mid.sh v) T0
         have nj4:A.length≤1024→NJ ((jn b (mid.sh v) T0).map (·.2)):=fun hl=>by
          refine jn_NJ ?_ (nj1 hl).2
          have h5:atomsN ((mid.sh v) :: T0.map (·.2))=mid.text.length+atomsN (T0.map (·.2)):=by simp [atomsN,RunV.sh]
          have h6:A.length=atomsN (((L1++[(a,y1.fst k)])).map (·.2))+mid.text.length+atomsN (T0.map (·.2)):=by rw [←atomsN_mid (L1++[(a,y1.fst k)]) T0 (b,mid),←flatten_length,f2]
          omega
         have e4z:=e4
         rw [z1]at e4z nj4
         simp -implicitDefEqProofs [same_self,RunV.cells]
         refine rope_prev S4.rp.tree S4.rp.nd e4z ?_
         have hlast:lastOf (L1++[(a,y1.fst k)])=.ptr a 0:=by simp [lastOf]
         simp -implicitDefEqProofs [hlast]
         have e4q:t4.items=L1++(a,y1.fst k) :: (b,x') :: T1:=by rw [e4z];simp
         refine join_ev S4 R4 e4q (by omega) (fun h5 t5 ix5 S5 e5 P5=>?_)
         have R5:Rok t5.items:=by rw [e5];exact jn_Rok (by rw [←e4q];exact R4)
         have f5:flat (t5.items.map (·.2))=setSh A (atomsN (L1.map (·.2))+k) v:=by rw [e5,jn_flat,←f4,e4q]
         have at5:t5.at_=A.length:=by rw [at_items rfl,←flatten_length,f5,setSh_len]
         simp -implicitDefEqProofs
         refine hq h5 _ ⟨m2,t5,ix5,S5,R5,?_,by omega,f5,fun hl=>?_,rfl⟩ ((((P1.trans P2).trans P3).trans P4).trans P5)
         · rw [e5];exact jn_plain (by rw [←e4q];exact pl4)
         · show NJ (t5.items.map (·.2))
           rw [setSh_len]at hl
           have h5:atomsN (y1.fst k :: ((b,x') :: T1).map (·.2))≤1024:=by
            have h6:t4.at_=atomsN (L1.map (·.2))+(y1.fst k).text.length+atomsN (((b,x') :: T1).map (·.2)):=by rw [at_items e4q,atomsN_mid]
            have h7:atomsN (y1.fst k :: ((b,x') :: T1).map (·.2))=(y1.fst k).text.length+atomsN (((b,x') :: T1).map (·.2)):=by simp [atomsN]
            omega
           have nj5:=jn_NJ (a:=a) h5 (nj4 hl)
           obtain⟨z',Z,y1_,y2_,_⟩:=jn_head a (y1.fst k) ((b,x') :: T1)
           rw [e5,y1_,List.map_append,List.map_cons]
           rw [y1_,List.map_cons]at nj5
           have:=nj2 hl
           rw [List.map_append]at this
           exact NJ_glue (NJ_ini (by rw [y2_]) this) nj5
       · have k00:k=0:=by omega
         have d0:decide ((0:Int) < (k:Int))=false:=decide_eq_false (by omega)
         simp -implicitDefEqProofs [same_self,RunV.cells,w1,d0,k00]
         have hml:y1.text.length=1:=by omega
         have hi:atomsN (L1.map (·.2))=atomsN (L1.map (·.2))+k:=by omega
         have nj2:A.length≤1024→NJ (L1.map (·.2)):=fun hl=>NJ_left _ _ (nj1 hl).1
         have pl2:∀q∈L1++(a,y1.sh v) :: T0,plain q.2.text=true:=by
          intro q hq
          simp only [List.mem_append,List.mem_cons]at hq
          rcases hq with h | h | h
          · exact pl1 q (by simp [h])
          · rw [h];exact pl1 (a,y1) (by simp)
          · exact pl1 q (by simp [h])
         have at2:t1.at_≤65536:=by
          have:t1.at_=A.length:=by rw [at_items e1,←flatten_length];rw [f1]
          omega
         obtain⟨u2,l2,r2,ht2,sz2,all2,hn2⟩:=At.item (p:=a) (x:=y1) S1.rp.tree (by rw [e1];simp)
         refine item_ev hn2 ?_
         simp -implicitDefEqProofs [same_self,RunV.cells]
         refine rope_set (z:=([],m1 :: zT)) (x:=y1.sh v) S1.rp e1 ⟨by have:=(fit_of R1 (by omega)).1;omega,by have:=(fit_of R1 (by omega)).2.1;have:(y1.sh v).text.length=y1.text.length:=rfl;omega⟩ (fun h3 t3 R3p e3 k3 n3=>?_)
         obtain⟨ix3,S3,P3⟩:=S1.set (t':=t3) (z:=y1.sh v) e1 e3 rfl rfl R3p k3 n3
         have R3:Rok t3.items:=by rw [e3];have hr:=R1;rw [e1]at hr;exact hr.set ((hr.ok (a,y1) (by simp)).sh v) (sh_within _ _)
         have at3:t3.at_=t1.at_:=by rw [at_items e3,at_items e1];simp [atomsN,RunV.sh]
         simp -implicitDefEqProofs [same_self,RunV.cells]
         refine join_ev S3 R3 e3 (by omega) (fun h4 t4 ix4 S4 e4 P4=>?_)
         have R4:Rok t4.items:=by rw [e4];exact jn_Rok (by rw [←e3];exact R3)
         have f4:flat (t4.items.map (·.2))=setSh A (atomsN (L1.map (·.2))+k) v:=by rw [e4,show_flat f1 hml];exact congrArg (fun i=>setSh A i v) hi
         have at4:t4.at_=A.length:=by rw [at_items rfl,←flatten_length,f4,setSh_len]
         have pl4:∀q∈t4.items,plain q.2.text=true:=by rw [e4];exact jn_plain pl2
         obtain⟨x',T1,z1,z2,z3,z4,z5,z6⟩:=jn_head a (y1.sh v) T0
         have nj4:A.length≤1024→NJ ((jn a (y1.sh v) T0).map (·.2)):=fun hl=>by
          refine jn_NJ ?_ (nj1 hl).2
          have h5:atomsN ((y1.sh v) :: T0.map (·.2))=y1.text.length+atomsN (T0.map (·.2)):=by simp [atomsN,RunV.sh]
          have h6:A.length=atomsN ((L1).map (·.2))+y1.text.length+atomsN (T0.map (·.2)):=by rw [←atomsN_mid L1 T0 (a,y1),←flatten_length,f1]
          omega
         have e4z:=e4
         rw [z1]at e4z nj4
         simp -implicitDefEqProofs [same_self,RunV.cells]
         refine rope_prev S4.rp.tree S4.rp.nd e4z ?_
         rcases List.eq_nil_or_concat L1 with hL | ⟨P0,q,hL⟩
         · subst hL
           simp -implicitDefEqProofs [lastOf]
           refine join_nil ?_
           simp -implicitDefEqProofs
           refine hq h4 _ ⟨m1,t4,ix4,S4,R4,pl4,by omega,f4,fun hl=>?_,rfl⟩ ((P1.trans P3).trans P4)
           show NJ (t4.items.map (·.2))
           rw [e4z]
           rw [setSh_len]at hl
           exact nj4 hl
         · obtain⟨q,z⟩:=q
           rw [List.concat_eq_append]at hL
           subst hL
           have hlast:lastOf (P0++[(q,z)])=.ptr q 0:=by simp [lastOf]
           simp -implicitDefEqProofs [hlast]
           have e4q:t4.items=P0++(q,z) :: (a,x') :: T1:=by rw [e4z];simp
           refine join_ev S4 R4 e4q (by omega) (fun h5 t5 ix5 S5 e5 P5=>?_)
           have R5:Rok t5.items:=by rw [e5];exact jn_Rok (by rw [←e4q];exact R4)
           have f5:flat (t5.items.map (·.2))=setSh A (atomsN ((P0++[(q,z)]).map (·.2))+k) v:=by rw [e5,jn_flat,←f4,e4q]
           have at5:t5.at_=A.length:=by rw [at_items rfl,←flatten_length,f5,setSh_len]
           simp -implicitDefEqProofs
           refine hq h5 _ ⟨m1,t5,ix5,S5,R5,?_,by omega,f5,fun hl=>?_,rfl⟩ (((P1.trans P3).trans P4).trans P5)
           · rw [e5];exact jn_plain (by rw [←e4q];exact pl4)
           · show NJ (t5.items.map (·.2))
             rw [setSh_len]at hl
             have h5:atomsN (z :: ((a,x') :: T1).map (·.2))≤1024:=by
              have h6:t4.at_=atomsN (P0.map (·.2))+z.text.length+atomsN (((a,x') :: T1).map (·.2)):=by rw [at_items e4q,atomsN_mid]
              have h7:atomsN (z :: ((a,x') :: T1).map (·.2))=z.text.length+atomsN (((a,x') :: T1).map (·.2)):=by simp [atomsN]
              omega
             have nj5:=jn_NJ (a:=q) h5 (nj4 hl)
             obtain⟨z',Z,y1_,y2_,_⟩:=jn_head q z ((a,x') :: T1)
             rw [e5,y1_,List.map_append,List.map_cons]
             rw [y1_,List.map_cons]at nj5
             have:=nj2 hl
             rw [List.map_append]at this
             exact NJ_glue (NJ_ini (by rw [y2_]) this) nj5
 · have hnone:atIx A ar an=none:=by
    rw [←a5']
    refine atIx_none.2 (fun y hy hh=>?_)
    obtain⟨p,hp,rfl⟩:=List.mem_map.1 hy
    exact hno p hp hh
   have e0:showA A ar an v=(A,40):=by unfold showA;rw [hnone]
   rw [e0]at hq
   simp -implicitDefEqProofs [same_self]
   exact hq h O ⟨m,t,ix,a1,a2,a3,a4,a5,a6,a7⟩ (Stp.refl _ _)
end
end Go.Proofs.YtlhlbamcgopiiaaGreatDoor
set_option linter.all false
set_option maxRecDepth 100000
set_option maxHeartbeats 4000000
namespace Go.Proofs.YtlhlbamcgopiiaaGreatDoor
open Go Go.RowKit Go.Proofs
variable {zT:List AVal}
def AtV.cells (a:AtV):List AVal:=[.int .u64 a.clock,.int .u16 a.r,.int .u32 a.n,.int .u16 a.er,.int .u32 a.en,.int .u8 a.b.toNat,.bool a.shown]
def zeroAtom:AVal:=.agg [.int .u64 0,.int .u16 0,.int .u32 0,.int .u16 0,.int .u32 0,.int .u8 0,.bool false]
def RunV.atom (x:RunV) (i:Nat) (b:UInt8):AtV:=⟨x.clock,x.r,x.n+i,x.er,x.en+i,b,x.shown⟩
theorem shown_take {y:RunV} {k:Nat} (hk:k≤y.text.length):(shownA ((atomsOf y).take k)).length=if y.shown then k else 0:=by
 rw [←fst_atoms y k hk]
 unfold atomsOf
 rw [shownA_run]
 have hl:(y.fst k).text.length=k:=by simp [RunV.fst];omega
 cases h:(y.fst k).shown <;> (have h2:(y.fst k).shown=y.shown:=rfl;rw [h]at h2;simp [←h2,hl])
section
variable {ro:Nat→Option (List AVal)}
theorem atom_ev {h:AHeap} {x:RunV} {i:Nat} {b:UInt8} (hx:RunOk x) (hb:x.text[i]?=some b) {Q:AVal→AHeap→Prop} (hq:Q (.agg (x.atom i b).cells) h):Ev (cfgR ro) 140 [.agg x.cells,.int .i64 (i:Nat)] h Q:=by
 refine Ev.wp rfl rfl Tryz.func140 rfl ?_
 have hi:=(List.getElem?_eq_some_iff.1 hb).1
 obtain⟨p1,p2,p3,p4,p5,p6⟩:=hx
 have ix:idxNat (.int .i64 (i:Int)) x.text.length=.ok i:=ix_nat hi
 simp only [AtV.cells,RunV.atom]at hq
 obtain⟨m1,hm1⟩:∃m1,m1=x.n+i:=⟨_,rfl⟩
 obtain⟨m2,hm2⟩:∃m2,m2=x.en+i:=⟨_,rfl⟩
 rw [←hm1,←hm2]at hq
 simp -implicitDefEqProofs [Tryz.f140,RunV.cells,same_self]
 refine keyPlus_ev (c:=x.clock) (r:=x.r) (n:=x.n) (k:=i) (by omega) ?_
 rw [←hm1]
 simp -implicitDefEqProofs [RunV.cells,same_self,keyA]
 refine idPlus_ev (r:=x.er) (n:=x.en) (k:=i) (by omega) ?_
 rw [←hm2]
 simp -implicitDefEqProofs [RunV.cells,same_self,keyA,idA,ix,hb]
 exact hq
theorem get_at {L1 L2:List (Nat×RunV)} {a:Nat} {y:RunV} {A:List AtV} {k:Nat} (hA:flat ((L1++(a,y) :: L2).map (·.2))=A) (hk:k < y.text.length):∃b,y.text[k]?=some b∧A[atomsN (L1.map (·.2))+k]?=some (y.atom k b):=by
 refine⟨_,List.getElem?_eq_getElem hk,?_⟩
 rw [←hA,List.map_append,List.map_cons,flat_append,flat_cons,←flatten_length,List.getElem?_append_right (by omega),Nat.add_sub_cancel_left,List.getElem?_append_left (by rw [atomsOf_len];exact hk),atomsOf_get,List.getElem?_eq_getElem hk]
 rfl
theorem sget_ev {h:AHeap} {s:Nat} {O:Nat→Prop} {A:List AtV} {ar an:Nat} (S:StA zT h s O A) (ha:an < 2 ^ 32) {Q:AVal→AHeap→Prop}
 (hq1:∀i a,atIx A ar an=some i→A[i]?=some a→Q (.tuple [.agg a.cells,.bool true]) h) (hq2:atIx A ar an=none→Q (.tuple [zeroAtom,.bool false]) h):Ev (cfgR ro) 104 [.ptr s 0,idA ar an] h Q:=by
 refine Ev.wp rfl rfl Tryz.func104 rfl ?_
 obtain⟨m,t,ix,a1,a2,a3,a4,a5,a6,a7⟩:=S
 have a5':flat (t.items.map (·.2))=A:=a5
 simp -implicitDefEqProofs [Tryz.f104,idA,same_self]
 refine at_ev a1 a2 ha (fun L1 a y L2 hT hh=>?_) (fun hno=>?_)
 · obtain⟨k,hk⟩:∃k,k=an - y.n:=⟨_,rfl⟩
   have hky:k < y.text.length:=by have:=hh.2;omega
   have a5y:flat ((L1++(a,y) :: L2).map (·.2))=A:=by rw [←hT];exact a5'
   have hpos:=pos_at (L1:=L1) (a:=a) (y:=y) (L2:=L2) (ar:=ar) (an:=an) (by rw [←hT];exact a2) hh
   rw [a5y,←hk]at hpos
   obtain⟨b,hb1,hb2⟩:=get_at a5y hky
   obtain⟨u,l,r,ht,sz,all,hn⟩:=At.item (p:=a) (x:=y) a1.rp.tree (by rw [hT];simp)
   have hq:=hq1 _ _ hpos hb2
   simp only [AtV.cells]at hq
   rw [←hk]
   simp -implicitDefEqProofs [same_self]
   refine item_ev hn ?_
   simp -implicitDefEqProofs [same_self]
   refine atom_ev (a2.ok (a,y) (by rw [hT];simp)) hb1 ?_
   simp -implicitDefEqProofs [same_self,AtV.cells]
   exact hq
 · have hnone:atIx A ar an=none:=by
    rw [←a5']
    refine atIx_none.2 (fun y hy hh=>?_)
    obtain⟨p,hp,rfl⟩:=List.mem_map.1 hy
    exact hno p hp hh
   have hq:=hq2 hnone
   simp only [zeroAtom]at hq
   simp -implicitDefEqProofs [same_self]
   exact hq
theorem sat_ev {h:AHeap} {s:Nat} {O:Nat→Prop} {A:List AtV} {i:Int} (S:StA zT h s O A) {Q:AVal→AHeap→Prop}
 (hq1:∀k a h',Old h h'→A[k]?=some a→a.shown=true→((shownA (A.take k)).length:Int)=i→Q (.tuple [.agg a.cells,.bool true]) h') (hq2:(i < 0∨((shownA A).length:Int)≤i)→∀h',Old h h'→Q (.tuple [zeroAtom,.bool false]) h'):Ev (cfgR ro) 111 [.ptr s 0,.int .i64 i] h Q:=by
 refine Ev.wp rfl rfl Tryz.func111 rfl ?_
 obtain⟨m,t,ix,a1,a2,a3,a4,a5,a6,a7⟩:=S
 have a5':flat (t.items.map (·.2))=A:=a5
 have hshA:shownA A=shownTx t.rs:=by rw [←a5,shownA_flat]
 simp only [zeroAtom]at hq2
 simp -implicitDefEqProofs [Tryz.f111,same_self]
 obtain⟨H1,hH1⟩:∃H1,H1=h.push (.row 0 false [.int .i64 i]):=⟨_,rfl⟩
 obtain⟨q,hqq⟩:∃q,q=h.next:=⟨_,rfl⟩
 have o1:Old h H1:=by rw [hH1];exact(Old.refl h).push _
 have hg:H1.get q=some (.row 0 false [.int .i64 i]):=by rw [hH1,hqq];exact get_push_next _ _
 have hqn:q < H1.next:=by rw [hH1,hqq];simp
 have b1:=(a1.old o1).1
 rw [←hH1,←hqq]
 by_cases c1:i < 0
 · have hq:=hq2 (.inl c1) H1 o1
   simp -implicitDefEqProofs [same_self,c1,hg]
   exact hq
 · have d1:decide (i < 0)=false:=decide_eq_false c1
   simp -implicitDefEqProofs [same_self,c1,hg]
   refine sshown_ev b1 ?_
   rw [←hshA]
   by_cases c2:((shownA A).length:Int)≤i
   · have hq:=hq2 (.inr c2) H1 o1
     simp -implicitDefEqProofs [same_self,c1,c2,hg]
     exact hq
   · have hfit:=fit_of a2 (Nat.le_trans a4 (by decide))
     simp -implicitDefEqProofs [same_self,c1,c2,hg]
     refine rope_find (z:=([],m :: zT)) b1.rp hfit.2.2 (by omega) (by rw [hshA]at c2;omega) hg hqn (fun L1 a y L2 mm h2 o2 hT hm g1 g2=>?_)
     have a5y:flat ((L1++(a,y) :: L2).map (·.2))=A:=by rw [←hT];exact a5'
     have m2:mm.sh=(shownTx (L1.map (·.2))).length:=hm.sh
     have b2:=(b1.old o2).1
     have hg2:H1.get q=h2.get q:=(o2.2 q hqn).symm
     rw [hg2]at hg
     obtain⟨u,l,r,ht,sz,all,hn⟩:=At.item (p:=a) (x:=y) b2.rp.tree (by rw [hT];simp)
     have hsy:y.shown=true∧i < (mm.sh:Int)+(y.text.length:Int):=by
      cases hs:y.shown with
      | true=>simp [shownTx,hs]at g2;exact⟨rfl,g2⟩
      | false=>simp [shownTx,hs]at g2;omega
     obtain⟨k,hk⟩:∃k:Nat,(k:Int)=i - (mm.sh:Int):=⟨(i - (mm.sh:Int)).toNat,by omega⟩
     have hky:k < y.text.length:=by omega
     have hyl:=(a2.ok (a,y) (by rw [hT];simp)).len
     simp only []at hyl
     obtain⟨b,hb1,hb2⟩:=get_at a5y hky
     have hsh:(shownA (A.take (atomsN (L1.map (·.2))+k))).length=mm.sh+k:=by
      rw [←a5y,(flat_pos (Nat.le_of_lt hky)).1,shownA_append,List.length_append,shownA_flat,shown_take (Nat.le_of_lt hky),if_pos hsy.1,m2]
     have hq:=hq1 _ _ h2 (o1.trans o2) hb2 hsy.1 (by rw [hsh];omega)
     simp only [AtV.cells]at hq
     have w1:IntKind.i64.wrap (i - (mm.sh:Int))=(k:Int):=by rw [←hk];exact w64 (by omega) (by omega)
     simp -implicitDefEqProofs [same_self,c1,c2,hg,MassV.cells]
     refine item_ev hn ?_
     simp -implicitDefEqProofs [same_self,c1,c2,hg,MassV.cells,w1]
     refine atom_ev (a2.ok (a,y) (by rw [hT];simp)) hb1 ?_
     simp -implicitDefEqProofs [same_self,c1,c2,hg,MassV.cells,w1,AtV.cells]
     exact hq
theorem sbehind_ev (hro:ro 0=some [.int .u16 0,.int .u32 0]) {h:AHeap} {s:Nat} {O:Nat→Prop} {A:List AtV} {ar an:Nat} (S:StA zT h s O A) (ha:an < 2 ^ 32) {Q:AVal→AHeap→Prop}
 (hq1:∀k z rest,posA A ar an=some k→A.drop k=atomsOf z++rest→RunOk z→plain z.text=true→Q (.tuple [.agg z.cells,.bool true]) h)
 (hq2:(∀k,posA A ar an=some k→A.length≤k)→Q (.tuple [zeroRun,.bool false]) h):Ev (cfgR ro) 186 [.ptr s 0,idA ar an] h Q:=by
 refine Ev.wp rfl rfl Tryz.func186 rfl ?_
 obtain⟨m,t,ix,a1,a2,a3,a4,a5,a6,a7⟩:=S
 have a5':flat (t.items.map (·.2))=A:=a5
 obtain⟨s0,hr⟩:=a1.rp.root
 have first:∀K:AVal→AHeap→Prop,K t.lm h→Ev (cfgR ro) 127 [.ptr s 0] h K:=fun K hK=>first_ev (z:=([],m :: zT)) hr a1.rp.tree hK
 simp only [zeroRun]at hq2
 simp -implicitDefEqProofs [Tryz.f186,idA,same_self]
 refine first _ ?_
 simp -implicitDefEqProofs [same_self]
 refine idRoot_ev hro ?_
 have at_row:∀L1 a y L2,t.items=L1++(a,y) :: L2→(∃u l r ht sz all,h.get a=some (nrow u l r ht sz y all))∧A.drop (atomsN (L1.map (·.2)))=atomsOf y++flat (L2.map (·.2))∧RunOk y∧plain y.text=true:=by
  intro L1 a y L2 hT
  have a5y:flat ((L1++(a,y) :: L2).map (·.2))=A:=by rw [←hT];exact a5'
  have hm:(a,y)∈t.items:=by rw [hT];simp
  refine⟨At.item a1.rp.tree hm,?_,a2.ok _ hm,a3 _ hm⟩
  have:=(flat_pos (L1:=L1) (L2:=L2) (a:=a) (y:=y) (k:=0) (Nat.zero_le _)).2
  rw [a5y]at this;simpa using this
 by_cases c:ar=0∧an=0
 · have hpos:posA A ar an=some 0:=by unfold posA;rw [if_pos c]
   rw [decide_eq_true c,lm_head]
   cases hT:t.items with
   | nil=>
    have:A=[]:=by rw [←a5',hT];rfl
    simp -implicitDefEqProofs [same_self,headP]
    exact hq2 (fun k _=>by rw [this];exact Nat.zero_le _)
   | cons p L2=>
    obtain⟨a,y⟩:=p
    obtain⟨⟨u,l,r,ht,sz,all,hn⟩,e1,e2,e3⟩:=at_row [] a y L2 hT
    have hq:=hq1 0 y _ hpos e1 e2 e3
    simp only [RunV.cells]at hq
    simp -implicitDefEqProofs [same_self,headP]
    refine item_ev hn ?_
    simp -implicitDefEqProofs [same_self,RunV.cells]
    exact hq
 · rw [decide_eq_false c]
   simp -implicitDefEqProofs [same_self]
   refine at_ev a1 a2 ha (fun L1 a y L2 hT hh=>?_) (fun hno=>?_)
   · obtain⟨k,hk⟩:∃k,k=an - y.n:=⟨_,rfl⟩
     have hky:k < y.text.length:=by have:=hh.2;omega
     have a5y:flat ((L1++(a,y) :: L2).map (·.2))=A:=by rw [←hT];exact a5'
     have hpos:=pos_at (L1:=L1) (a:=a) (y:=y) (L2:=L2) (ar:=ar) (an:=an) (by rw [←hT];exact a2) hh
     rw [a5y,←hk]at hpos
     obtain⟨k1,hk1⟩:∃k1,k1=k+1:=⟨_,rfl⟩
     have hpos:posA A ar an=some (atomsN (L1.map (·.2))+k1):=by unfold posA;rw [if_neg c,hpos];rw [hk1];rfl
     obtain⟨⟨u,l,r,ht,sz,all,hn⟩,e1,e2,e3⟩:=at_row L1 a y L2 hT
     have hyl:=e2.len
     have w1:IntKind.i64.wrap ((k:Int)+1)=(k1:Int):=by rw [w64 (by omega) (by omega)];omega
     rw [←hk]
     simp -implicitDefEqProofs [same_self]
     refine item_ev hn ?_
     simp -implicitDefEqProofs [same_self,w1]
     refine rCut_ev (k:=k1) e2 (by omega) (fun c1 c2=>?_) (fun c3=>?_)
     · have hz:A.drop (atomsN (L1.map (·.2))+k1)=atomsOf (y.snd k1)++flat (L2.map (·.2)):=by
        rw [←a5y,(flat_pos (Nat.le_of_lt c2)).2,snd_atoms y k1 (Nat.le_of_lt c2)]
       have hpl:plain (y.snd k1).text=true:=by
        have:=e3
        rw [←List.take_append_drop k1 y.text,plain_append]at this
        simp at this;exact this.2
       have hq:=hq1 _ (y.snd k1) _ hpos hz (e2.snd c1 c2) hpl
       simp only [RunV.cells]at hq
       simp -implicitDefEqProofs [same_self,RunV.cells]
       exact hq
     · simp -implicitDefEqProofs [same_self,zeroRun]
       refine rope_next a1.rp.tree a1.rp.nd hT ?_
       have hkl:k1=y.text.length:=by omega
       cases L2 with
       | nil=>
        simp -implicitDefEqProofs [same_self,headP]
        refine hq2 (fun k2 e=>?_)
        rw [hpos]at e
        injection e with e
        rw [←a5y,flatten_length,atomsN_mid,←e];simp [atomsN];omega
       | cons p L3=>
        obtain⟨b,z⟩:=p
        obtain⟨⟨u,l,r,ht,sz,all,hn2⟩,g1,g2,g3⟩:=at_row (L1++[(a,y)]) b z L3 (by rw [hT];simp)
        have hl:atomsN ((L1++[(a,y)]).map (·.2))=atomsN (L1.map (·.2))+k1:=by rw [List.map_append,atomsN_append,hkl];simp [atomsN]
        rw [hl]at g1
        have hq:=hq1 _ z _ hpos g1 g2 g3
        simp only [RunV.cells]at hq
        simp -implicitDefEqProofs [same_self,headP]
        refine item_ev hn2 ?_
        simp -implicitDefEqProofs [same_self,RunV.cells]
        exact hq
   · have hnone:posA A ar an=none:=by
      unfold posA;rw [if_neg c]
      have:atIx A ar an=none:=by
       rw [←a5']
       refine atIx_none.2 (fun y hy hh=>?_)
       obtain⟨p,hp,rfl⟩:=List.mem_map.1 hy
       exact hno p hp hh
      rw [this];rfl
     simp -implicitDefEqProofs [same_self]
     exact hq2 (fun k e=>by rw [hnone]at e;cases e)
end
end Go.Proofs.YtlhlbamcgopiiaaGreatDoor
set_option linter.all false
set_option maxRecDepth 100000
set_option maxHeartbeats 4000000
namespace Go.Proofs.YtlhlbamcgopiiaaGreatDoor
open Go Go.RowKit Go.Proofs
variable {zT:List AVal}
section
variable {ro:Nat→Option (List AVal)}
theorem stext_ev {h:AHeap} {s:Nat} {O:Nat→Prop} {A:List AtV} (S:StA zT h s O A) {Q:AVal→AHeap→Prop}
 (hq:∀h',Old h h'→Q (.str (shownA A)) h'):Ev (cfgR ro) 70 [.ptr s 0] h Q:=by
 refine Ev.wp rfl rfl Tryz.func70 rfl ?_
 obtain⟨m,t,ix,a1,a2,a3,a4,a5,a6,a7⟩:=S
 have hshA:shownA A=shownTx t.rs:=by rw [←a5,shownA_flat]
 rw [hshA]at hq
 have hle:=shown_le t.rs
 have hle2:atomsN t.rs≤65536:=a4
 have hbld:bldR h 217 (.agg [.nilp,.nils])=.ok (.ptr h.next 0,h.push (.bld 217 none)):=by rfl
 simp -implicitDefEqProofs [Tryz.f70,hbld]
 obtain⟨H1,hH1⟩:∃H1,H1=h.push (.bld 217 none):=⟨_,rfl⟩
 obtain⟨o,hoo⟩:∃o,o=h.next:=⟨_,rfl⟩
 have bl:BL h H1 o []:=⟨by rw [hH1];exact(Old.refl h).push _,by omega,by rw [hH1,hoo];simp,.inl ⟨rfl,by rw [hH1,hoo];exact get_push_next _ _⟩⟩
 rw [←hH1,←hoo]
 have b1:=(a1.old bl.1).1
 obtain⟨s0,hr⟩:=b1.rp.root
 refine first_ev (z:=([],m :: zT)) hr b1.rp.tree ?_
 rw [lm_head]
 simp -implicitDefEqProofs [same_self]
 obtain⟨I,hI⟩:∃I:Nat→List AVal→AHeap→Prop,I=fun n env h'=>∃L1 L2,t.items=L1++L2∧n=L2.length∧BL h h' o (shownTx (L1.map (·.2)))∧
  env=(.dead :: .dead :: .dead :: .ptr o 0 :: headP L2 :: .dead :: .dead :: .dead :: .dead :: .dead :: .dead :: .dead :: .dead :: .dead :: .dead :: .dead :: .dead :: .dead :: .dead :: .dead :: .dead :: .dead :: []):=⟨_,rfl⟩
 refine loop_of I ?_ t.items.length (by rw [hI];exact⟨[],t.items,rfl,rfl,bl,rfl⟩)
 intro n env h' hi
 rw [hI]at hi
 obtain⟨L1,L2,hT,rfl,hbl,rfl⟩:=hi
 have b2:=(a1.old hbl.1).1
 cases L2 with
 | nil=>
  have hall:shownTx (L1.map (·.2))=shownTx t.rs:=by unfold Rt.rs;rw [hT];simp
  rw [hall]at hbl
  simp -implicitDefEqProofs [headP]
  refine bstr_ev hbl (by omega) (fun h2 o2=>?_)
  simp -implicitDefEqProofs
  exact hq h2 o2
 | cons p L2=>
  obtain⟨a,y⟩:=p
  obtain⟨u,l,r,ht,sz,all,hn⟩:=At.item (p:=a) (x:=y) b2.rp.tree (by rw [hT];simp)
  have hsum:shownTx t.rs=shownTx (L1.map (·.2))++(if y.shown then y.text else [])++shownTx (L2.map (·.2)):=by
   unfold Rt.rs;rw [hT];simp [shownTx]
  have hsl:=congrArg List.length hsum
  simp only [List.length_append]at hsl
  have hnext:∀(h3:AHeap) (K:AVal→AHeap→Prop),Old h h3→K (headP L2) h3→Ev (cfgR ro) 128 [.ptr a 0] h3 K:=fun h3 K o3 hK=>rope_next (a1.old o3).1.rp.tree a1.rp.nd hT hK
  simp -implicitDefEqProofs [headP]
  refine item_ev hn ?_
  cases hs:y.shown with
  | true=>
   rw [hs]at hsl
   simp only [if_true]at hsl
   simp -implicitDefEqProofs [RunV.cells,hs]
   refine write_ev hbl (by omega) (fun h3 hb3=>?_)
   simp -implicitDefEqProofs [RunV.cells,hs]
   refine hnext _ _ hb3.1 ?_
   simp -implicitDefEqProofs [RunV.cells,hs]
   refine .mk (m:=L2.length) (by simp) (by rw [hI];refine⟨L1++[(a,y)],L2,by rw [hT];simp,rfl,?_,rfl⟩;have:shownTx ((L1++[(a,y)]).map (·.2))=shownTx (L1.map (·.2))++y.text:=by simp [shownTx,hs]
                                           rw [this];exact hb3)
  | false=>
   simp -implicitDefEqProofs [RunV.cells,hs]
   refine hnext _ _ hbl.1 ?_
   simp -implicitDefEqProofs [RunV.cells,hs]
   refine .mk (m:=L2.length) (by simp) (by rw [hI];refine⟨L1++[(a,y)],L2,by rw [hT];simp,rfl,?_,rfl⟩;have:shownTx ((L1++[(a,y)]).map (·.2))=shownTx (L1.map (·.2)):=by simp [shownTx,hs]
                                           rw [this];exact hbl)
end
end Go.Proofs.YtlhlbamcgopiiaaGreatDoor
set_option linter.all false
set_option maxRecDepth 100000
set_option maxHeartbeats 4000000
namespace Go.Proofs.YtlhlbamcgopiiaaGreatDoor
open Go Go.RowKit Go.Proofs
theorem app_frame {sz b n:Nat} {h h':AHeap} {v v':AVal} {new:List AVal} (e:appCore sz b h v n new=.ok (v',h')) (hv:notSlc v):h.next≤h'.next∧(∀o,o < h.next→¬vobj v o→h'.get o=h.get o)∧∀o,vobj v' o→vobj v o∨h.next≤o:=by
 unfold appCore at e
 cases v <;> simp only at e <;> try (cases e;done)
 · split at e
   · cases e;exact⟨Nat.le_refl _,fun _ _ _=>rfl,fun o ho=>ho.elim⟩
   · split at e
     · cases e
     · cases e
       refine⟨by simp,fun o ho _=>by rw [AHeap.get_push,if_neg (by omega)],fun o ho=>?_⟩
       have:o=h.next:=ho
       exact .inr (by omega)
 · rename_i q off len
   split at e
   · rename_i esz fz vs hg
     split at e
     · split at e
       · cases hov:overR vs (off+len * sz) new with
         | err m=>rw [hov]at e;cases e
         | ok ws=>
          rw [hov]at e
          cases e
          refine⟨Nat.le_refl _,fun o ho hn=>get_set_ne (fun e2=>hn e2.symm),fun o ho=>.inl ho⟩
       · split at e
         · cases e
         · cases htk:takeR vs off (len * sz)with
           | err m=>rw [htk]at e;cases e
           | ok ws=>
            rw [htk]at e
            cases e
            refine⟨by simp,fun o ho hn=>?_,fun o ho=>?_⟩
            · rw [AHeap.get_push,if_neg (by simp;omega),AHeap.get_del,if_neg (fun e2:o=q=>hn e2)]
            · have:o=(h.del q).next:=ho
              simp at this
              exact .inr (by omega)
     · cases e
   · cases e
 · exact(hv _ _ _ _ rfl).elim
 · split at e
   · cases e;exact⟨Nat.le_refl _,fun _ _ _=>rfl,fun o ho=>.inl ho⟩
   · cases e
theorem Mine.keepO {h0 h h':AHeap} {sz:Nat} {es:List (List AVal)} {v:AVal} (m:Mine h0 h sz es v) (k:∀o,vobj v o→h'.get o=h.get o) (hn:h.next≤h'.next):Mine h0 h' sz es v:=by
 obtain⟨m1,m2⟩:=m
 refine⟨m1,m2.imp_right ?_⟩
 rintro⟨q,fz,rfl,g1,g2,g3⟩
 exact⟨q,fz,rfl,g1,Nat.lt_of_lt_of_le g2 hn,by rw [k q rfl];exact g3⟩
theorem Mine.obj {h0 h:AHeap} {sz:Nat} {es:List (List AVal)} {v:AVal} (m:Mine h0 h sz es v):∀o,vobj v o→h0.next≤o∧o < h.next:=by
 obtain⟨_,⟨_,rfl⟩ | ⟨q,fz,rfl,g1,g2,_⟩⟩:=m
 · exact fun o ho=>ho.elim
 · intro o ho
   have:o=q:=ho
   subst this;exact⟨g1,g2⟩
theorem atIx_some {A:List AtV} {r n i:Nat} {a:AtV} (ha:A[i]?=some a) (h1:a.r=r∧a.n=n) (h2:∀j b,j < i→A[j]?=some b→¬(b.r=r∧b.n=n)):atIx A r n=some i:=by
 unfold atIx
 rw [List.findIdx?_eq_some_iff_getElem]
 obtain⟨l,e⟩:=List.getElem?_eq_some_iff.1 ha
 refine⟨l,by rw [e];exact decide_eq_true h1,fun j hj=>?_⟩
 have:=h2 j A[j] hj (List.getElem?_eq_getElem (by omega))
 simpa using this
theorem atIx_lt {A:List AtV} {r n i:Nat} (h:atIx A r n=some i):i < A.length:=by
 unfold atIx at h
 rw [List.findIdx?_eq_some_iff_getElem]at h
 exact h.1
theorem StA.len {zT:List AVal} {h:AHeap} {s:Nat} {O:Nat→Prop} {A:List AtV} (S:StA zT h s O A):A.length≤65536:=by
 obtain⟨m,t,ix,a1,a2,a3,a4,a5,a6,a7⟩:=S
 rw [←a5,flatten_length];exact a4
theorem StA.keep {zT:List AVal} {h h':AHeap} {s:Nat} {O:Nat→Prop} {A:List AtV} (S:StA zT h s O A) (o:Old h h'):StA zT h' s O A:=by
 obtain⟨m,t,ix,a1,a2,a3,a4,a5,a6,rfl⟩:=S
 have kk:∀q,IObj m h q→h'.get q=h.get q:=fun q hq=>o.2 q (a1.lt q (.inr (.inr hq)))
 refine⟨m,t,ix,(a1.old o).1,a2,a3,a4,a5,a6,funext fun q=>propext ?_⟩
 unfold SOwn
 rw [IObj.keep a1 kk]
theorem Stp.ofOld {h h':AHeap} (O:Nat→Prop) (o:Old h h'):Stp h O h' O:=⟨o.1,fun q hq _=>o.2 q hq,fun _ h=>.inl h⟩
theorem StA.num {zT:List AVal} {h:AHeap} {s:Nat} {O:Nat→Prop} {A:List AtV} (S:StA zT h s O A):∀a∈A,a.n < 2 ^ 29∧a.en < 2 ^ 29:=by
 obtain⟨m,t,ix,a1,a2,a3,a4,a5,a6,a7⟩:=S
 intro a ha
 rw [←a5]at ha
 obtain⟨l,hl,ha⟩:=List.mem_flatten.1 ha
 obtain⟨x,hx,rfl⟩:=List.mem_map.1 hl
 obtain⟨p,hp,rfl⟩:=List.mem_map.1 hx
 obtain⟨i,hi⟩:=List.mem_iff_getElem?.1 ha
 rw [atomsOf_get]at hi
 have:=a2.ok p hp
 cases hx2:p.2.text[i]? with
 | none=>rw [hx2]at hi;cases hi
 | some b=>
  rw [hx2]at hi
  cases hi
  have h1:=(List.getElem?_eq_some_iff.1 hx2).1
  have h2:=this.n2
  have h3:=this.e2
  exact⟨by simp only [];omega,by simp only [];omega⟩
def ixI:Option Nat→Int
 | some i=>i
 | none=>-1
end Go.Proofs.YtlhlbamcgopiiaaGreatDoor
set_option linter.all false
set_option maxRecDepth 100000
set_option maxHeartbeats 4000000
namespace Go.Proofs.YtlhlbamcgopiiaaGreatDoor
open Go Go.RowKit Go.Proofs
abbrev KeyT:=Nat×Nat×Nat
def klt (x y:KeyT):Prop:=x.1 < y.1∨(x.1=y.1∧(x.2.1 < y.2.1∨(x.2.1=y.2.1∧x.2.2 < y.2.2)))
instance (x y:KeyT):Decidable (klt x y):=by unfold klt;infer_instance
theorem klt_irrefl (x:KeyT):¬klt x x:=by unfold klt;omega
def AtV.key (a:AtV):KeyT:=(a.clock,a.r,a.n)
abbrev IdT:=Nat×Nat
def AtV.id (a:AtV):IdT:=(a.r,a.n)
structure TV where
 a:AtV
 an:IdT
def TV.key (t:TV):KeyT:=t.a.key
def TV.id (t:TV):IdT:=t.a.id
structure Kids (T:List TV) (x:IdT) (ks:List TV):Prop where
 mem:∀t,t∈ks↔t∈T∧t.an=x
 ord:ks.Pairwise fun t u=>klt u.key t.key
inductive OrdK (T:List TV):List TV→List AtV→Prop
 | nil:OrdK T [] []
 | cons {c:TV} {cs ks:List TV} {L1 L2:List AtV}:Kids T c.id ks→OrdK T ks L1→OrdK T cs L2→OrdK T (c :: cs) (c.a :: (L1++L2))
structure Tree (T:List TV):Prop where
 names:∀t∈T,∀u∈T,t.id=u.id→t=u
 up:∀t∈T,t.an=(0,0)∨∃u∈T,u.id=t.an∧klt u.key t.key
 noroot:∀t∈T,t.id≠(0,0)
def insK (n:AtV) (Y:List AtV):List AtV:=Y.takeWhile (fun x=>decide (klt n.key x.key))++n :: Y.dropWhile (fun x=>decide (klt n.key x.key))
structure Grown (T:List TV) (A:List AtV):Prop where
 tree:Tree T
 ord:∃ks,Kids T (0,0) ks∧OrdK T ks A
 mem:∀x,x∈A↔∃t∈T,t.a=x
 nd:(A.map AtV.id).Nodup
def posT (A:List AtV) (x:IdT) (p:Nat):Prop:=(x=(0,0)∧p=0)∨∃i a,A[i]?=some a∧a.id=x∧p=i+1
def tvs:IdT→List AtV→List TV
 | _,[]=>[]
 | x,b :: bs=>⟨b,x⟩ :: tvs b.id bs
def Row:AtV→List AtV→Prop
 | _,[]=>True
 | a,b :: bs=>klt a.key b.key∧Row b bs
theorem atF_ids (c r:Nat) (sh:Bool):∀(s:Str) (n er en:Nat),((atF c r sh n er en s).map AtV.id).Nodup∧∀x∈atF c r sh n er en s,n≤x.n
 | [],_,_,_=>⟨List.nodup_nil,fun x h=>(by cases h)⟩
 | d :: s,n,er,en=>by
  obtain⟨h1,h2⟩:=atF_ids c r sh s (n+1) er (en+1)
  simp only [atF,List.map_cons,List.nodup_cons]
  refine⟨⟨fun hm=>?_,h1⟩,fun x hx=>?_⟩
  · obtain⟨y,hy,e⟩:=List.mem_map.1 hm
    have:=h2 y hy
    unfold AtV.id at e
    simp only [Prod.mk.injEq]at e
    omega
  · rcases List.mem_cons.1 hx with rfl | hx
    · exact Nat.le_refl _
    · have:=h2 x hx;omega
end Go.Proofs.YtlhlbamcgopiiaaGreatDoor
set_option linter.all false
set_option maxRecDepth 100000
set_option maxHeartbeats 4000000
namespace Go.Proofs.YtlhlbamcgopiiaaGreatDoor
open Go Go.RowKit Go.Proofs
section
variable {ro:Nat→Option (List AVal)}
theorem nan_u64_ev {h:AHeap} {a:Nat} {Q:AVal→AHeap→Prop} (hq:Q (.bool false) h):Ev (cfgR ro) 207 [.int .u64 a] h Q:=by
 refine Ev.wp rfl rfl Tryz.func207 rfl ?_
 simp -implicitDefEqProofs [Tryz.f207]
 exact hq
theorem cmp_u64_ev {h:AHeap} {a b:Nat} {Q:AVal→AHeap→Prop} (hq:Q (.int .i64 (cmpN a b)) h):Ev (cfgR ro) 182 [.int .u64 a,.int .u64 b] h Q:=by
 refine Ev.wp rfl rfl Tryz.func182 rfl ?_
 simp -implicitDefEqProofs [Tryz.f182]
 refine nan_u64_ev ?_
 simp -implicitDefEqProofs
 refine nan_u64_ev ?_
 unfold cmpN at hq
 by_cases c1:a < b
 · rw [if_pos c1]at hq
   simp -implicitDefEqProofs [c1]
   exact hq
 · rw [if_neg c1]at hq
   by_cases c2:b < a
   · rw [if_pos c2]at hq
     simp -implicitDefEqProofs [c1,c2]
     exact hq
   · rw [if_neg c2]at hq
     simp -implicitDefEqProofs [c1,c2]
     exact hq
theorem nan_u16_ev {h:AHeap} {a:Nat} {Q:AVal→AHeap→Prop} (hq:Q (.bool false) h):Ev (cfgR ro) 208 [.int .u16 a] h Q:=by
 refine Ev.wp rfl rfl Tryz.func208 rfl ?_
 simp -implicitDefEqProofs [Tryz.f208]
 exact hq
theorem cmp_u16_ev {h:AHeap} {a b:Nat} {Q:AVal→AHeap→Prop} (hq:Q (.int .i64 (cmpN a b)) h):Ev (cfgR ro) 183 [.int .u16 a,.int .u16 b] h Q:=by
 refine Ev.wp rfl rfl Tryz.func183 rfl ?_
 simp -implicitDefEqProofs [Tryz.f183]
 refine nan_u16_ev ?_
 simp -implicitDefEqProofs
 refine nan_u16_ev ?_
 unfold cmpN at hq
 by_cases c1:a < b
 · rw [if_pos c1]at hq
   simp -implicitDefEqProofs [c1]
   exact hq
 · rw [if_neg c1]at hq
   by_cases c2:b < a
   · rw [if_pos c2]at hq
     simp -implicitDefEqProofs [c1,c2]
     exact hq
   · rw [if_neg c2]at hq
     simp -implicitDefEqProofs [c1,c2]
     exact hq
def orI:List Int→Int
 | []=>0
 | x :: l=>if x≠0 then x else orI l
theorem or_ev {h:AHeap} {v:AVal} {l:List Int} (hs:Sl (cfgR ro) h 1 v (l.map fun x=>[.int .i64 x])) (hl:l.length < 2 ^ 60) {Q:AVal→AHeap→Prop} (hq:Q (.int .i64 (orI l)) h):Ev (cfgR ro) 181 [v] h Q:=by
 refine Ev.wp rfl rfl Tryz.func181 rfl ?_
 have hL:lenR (cfgR ro) h 111 v=.ok (.int .i64 (l.length:Nat)):=by have:=hs.lenR (t:=111) un111;simpa using this
 simp -implicitDefEqProofs [Tryz.f181,hL]
 obtain⟨I,hI⟩:∃I:Nat→List AVal→AHeap→Prop,I=fun m env h'=>h'=h∧∃i:Nat,i+m=l.length∧orI l=orI (l.drop i)∧
  env=(.dead :: .dead :: .dead :: .int .i64 0 :: .dead :: .dead :: v :: .int .i64 (l.length:Nat) :: .int .i64 (i:Nat) :: .dead :: .dead :: .dead :: .dead :: .dead :: .dead :: .dead :: .dead :: .dead :: []):=⟨_,rfl⟩
 refine loop_of I ?_ l.length (by rw [hI];exact⟨rfl,0,by omega,rfl,rfl⟩)
 intro m env h' hi
 rw [hI]at hi
 obtain⟨rfl,i,him,hno,rfl⟩:=hi
 by_cases hlt:i < l.length
 · obtain⟨x,hx⟩:∃x,l[i]'hlt=x:=⟨_,rfl⟩
   have he:(l.map fun x=>[AVal.int .i64 x])[i]?=some [.int .i64 x]:=by rw [List.getElem?_map,List.getElem?_eq_getElem hlt,hx];rfl
   have hix:indexAddrR Tryz.prog 111 v (.int .i64 (i:Nat))=.ok (elp v 1 i):=hs.idx un111 sz3 (by simpa using hlt)
   have hld:loadR (cfgR ro) h' 3 (elp v 1 i)=.ok (.int .i64 x):=hs.load1 he rfl ag3
   have w1:IntKind.i64.wrap ((i:Int)+1)=((i+1:Nat):Int):=by rw [w64 (by omega) (by omega)];omega
   have hst:orI (l.drop i)=if x≠0 then x else orI (l.drop (i+1)):=by rw [List.drop_eq_getElem_cons hlt,hx];rfl
   by_cases c:x=0
   · rw [if_neg (fun h=>h c)]at hst
     simp -implicitDefEqProofs [hlt,hix,hld,c,w1]
     exact .mk (m:=m - 1) (by omega) (by rw [hI];exact⟨rfl,i+1,by omega,hno.trans hst,by simp⟩)
   · rw [if_pos c]at hst
     rw [hno,hst]at hq
     simp -implicitDefEqProofs [hlt,hix,hld,c,w1]
     exact hq
 · have:l.drop i=[]:=List.drop_eq_nil_of_le (by omega)
   rw [hno,this]at hq
   simp only [orI]at hq
   simp -implicitDefEqProofs [hlt]
   exact hq
def cmpK (x y:KeyT):Int:=orI [cmpN x.1 y.1,cmpN x.2.1 y.2.1,cmpN x.2.2 y.2.2]
theorem cmpN_lt {a b:Nat} (h:a < b):cmpN a b=-1:=by unfold cmpN;rw [if_pos h]
theorem cmpN_gt {a b:Nat} (h:b < a):cmpN a b=1:=by unfold cmpN;rw [if_neg (by omega),if_pos h]
theorem cmpN_eq {a b:Nat} (h:a=b):cmpN a b=0:=by unfold cmpN;rw [if_neg (by omega),if_neg (by omega)]
theorem cmpK_cases (x y:KeyT):(cmpK x y=-1∧klt x y∧¬klt y x)∨(cmpK x y=1∧klt y x∧¬klt x y)∨(cmpK x y=0∧¬klt x y∧¬klt y x):=by
 unfold cmpK klt
 rcases Nat.lt_trichotomy x.1 y.1 with h | h | h
 · left;rw [cmpN_lt h];exact⟨rfl,by omega,by omega⟩
 · rw [cmpN_eq h]
   rcases Nat.lt_trichotomy x.2.1 y.2.1 with h2 | h2 | h2
   · left;rw [cmpN_lt h2];exact⟨rfl,by omega,by omega⟩
   · rw [cmpN_eq h2]
     rcases Nat.lt_trichotomy x.2.2 y.2.2 with h3 | h3 | h3
     · left;rw [cmpN_lt h3];exact⟨rfl,by omega,by omega⟩
     · right;right;rw [cmpN_eq h3];exact⟨rfl,by omega,by omega⟩
     · right;left;rw [cmpN_gt h3];exact⟨rfl,by omega,by omega⟩
   · right;left;rw [cmpN_gt h2];exact⟨rfl,by omega,by omega⟩
 · right;left;rw [cmpN_gt h];exact⟨rfl,by omega,by omega⟩
theorem cmpK_lt (x y:KeyT):cmpK x y < 0↔klt x y:=by
 rcases cmpK_cases x y with ⟨a,b,c⟩ | ⟨a,b,c⟩ | ⟨a,b,c⟩ <;> rw [a]
 · exact⟨fun _=>b,fun _=>by decide⟩
 · exact⟨fun h=>absurd h (by decide),fun h=>(c h).elim⟩
 · exact⟨fun h=>absurd h (by decide),fun h=>(b h).elim⟩
theorem cmpK_gt (x y:KeyT):0 < cmpK x y↔klt y x:=by
 rcases cmpK_cases x y with ⟨a,b,c⟩ | ⟨a,b,c⟩ | ⟨a,b,c⟩ <;> rw [a]
 · exact⟨fun h=>absurd h (by decide),fun h=>(c h).elim⟩
 · exact⟨fun _=>b,fun _=>by decide⟩
 · exact⟨fun h=>absurd h (by decide),fun h=>(c h).elim⟩
theorem keyCmp_ev {h:AHeap} {c r n c' r' n':Nat} {Q:AVal→AHeap→Prop} (hq:∀h',Old h h'→Q (.int .i64 (cmpK (c,r,n) (c',r',n'))) h'):Ev (cfgR ro) 154 [keyA c r n,keyA c' r' n'] h Q:=by
 refine Ev.wp rfl rfl Tryz.func154 rfl ?_
 simp -implicitDefEqProofs [Tryz.f154,keyA]
 refine cmp_u64_ev ?_
 simp -implicitDefEqProofs [same_self]
 refine cmp_u16_ev ?_
 simp -implicitDefEqProofs [same_self]
 refine cmp32_ev ?_
 have o1:Old h (h.push (.row 1 false [.int .i64 (cmpN c c'),.int .i64 (cmpN r r'),.int .i64 (cmpN n n')])):=(Old.refl h).push _
 have hsl:Sl (cfgR ro) (h.push (.row 1 false [.int .i64 (cmpN c c'),.int .i64 (cmpN r r'),.int .i64 (cmpN n n')])) 1 (.sl h.next 0 3) ([cmpN c c',cmpN r r',cmpN n n'].map fun x=>[.int .i64 x]):=
  Mine.sl (h0:=h) ⟨by simp,.inr ⟨h.next,false,rfl,Nat.le_refl _,by simp,by rw [get_push_next];rfl⟩⟩
 simp -implicitDefEqProofs [same_self,buildSliceR,reps]
 refine or_ev hsl (by simp) ?_
 have hq:=hq _ o1
 unfold cmpK at hq
 simp -implicitDefEqProofs [same_self]
 exact hq
end
end Go.Proofs.YtlhlbamcgopiiaaGreatDoor
set_option linter.all false
set_option maxRecDepth 100000
set_option maxHeartbeats 4000000
namespace Go.Proofs.YtlhlbamcgopiiaaGreatDoor
open Go Go.RowKit Go.Proofs
variable {zT:List AVal}
theorem flat_nd:∀{L:List (Nat×RunV)},Rok L→((flat (L.map (·.2))).map AtV.id).Nodup
 | [],_=>List.nodup_nil
 | p :: L,R=>by
  have ha:=R.apart
  rw [List.pairwise_cons]at ha
  have ih:=flat_nd (L:=L) ⟨fun q hq=>R.ok q (by simp [hq]),ha.2⟩
  rw [List.map_cons,flat_cons,List.map_append,List.nodup_append]
  refine⟨(atF_ids _ _ _ _ _ _ _).1,ih,fun x hx y hy e=>?_⟩
  obtain⟨a,h1,rfl⟩:=List.mem_map.1 hx
  obtain⟨b,h2,rfl⟩:=List.mem_map.1 hy
  obtain⟨l,hl,h3⟩:=List.mem_flatten.1 h2
  obtain⟨z,hz,rfl⟩:=List.mem_map.1 hl
  obtain⟨q,hq,rfl⟩:=List.mem_map.1 hz
  have m1:=mem_atomsOf h1
  have m2:=mem_atomsOf h3
  unfold AtV.id at e
  simp only [Prod.mk.injEq]at e
  rw [e.1,e.2]at m1
  exact apart_has (ha.1 q hq) m1 m2
theorem StA.nd {h:AHeap} {s:Nat} {O:Nat→Prop} {A:List AtV} (S:StA zT h s O A):(A.map AtV.id).Nodup:=by
 obtain⟨m,t,ix,a1,a2,a3,a4,a5,a6,a7⟩:=S
 rw [←a5];exact flat_nd a2
theorem StA.pos {h:AHeap} {s:Nat} {O:Nat→Prop} {A:List AtV} (S:StA zT h s O A):∀a∈A,1≤a.n:=by
 obtain⟨m,t,ix,a1,a2,a3,a4,a5,a6,a7⟩:=S
 intro a ha
 rw [←a5]at ha
 obtain⟨l,hl,h3⟩:=List.mem_flatten.1 ha
 obtain⟨z,hz,rfl⟩:=List.mem_map.1 hl
 obtain⟨q,hq,rfl⟩:=List.mem_map.1 hz
 have:=(mem_atomsOf h3).2.1
 have:=(a2.ok q hq).n1
 omega
theorem atIx_at' {A:List AtV} (hn:(A.map AtV.id).Nodup) {i:Nat} {a:AtV} (h:A[i]?=some a):atIx A a.r a.n=some i:=by
 refine atIx_some h ⟨rfl,rfl⟩ (fun j b hj hb hh=>?_)
 obtain⟨l1,e1⟩:=List.getElem?_eq_some_iff.1 h
 obtain⟨l2,e2⟩:=List.getElem?_eq_some_iff.1 hb
 have:=(List.nodup_iff_pairwise_ne.1 hn)
 rw [List.pairwise_iff_getElem]at this
 have:=this j i (by simpa using l2) (by simpa using l1) hj
 simp only [List.getElem_map,e1,e2]at this
 exact this (by unfold AtV.id;rw [hh.1,hh.2])
theorem posA_iff {A:List AtV} {x:IdT} {p:Nat} (h:posA A x.1 x.2=some p):posT A x p:=by
 unfold posA at h
 by_cases c:x.1=0∧x.2=0
 · rw [if_pos c]at h
   exact .inl ⟨Prod.ext c.1 c.2,(Option.some.inj h).symm⟩
 · rw [if_neg c]at h
   cases hx:atIx A x.1 x.2 with
   | none=>rw [hx]at h;cases h
   | some i=>
    rw [hx]at h
    have hp:i+1=p:=Option.some.inj h
    have hl:=atIx_lt hx
    refine .inr ⟨i,A[i],List.getElem?_eq_getElem hl,?_,hp.symm⟩
    unfold atIx at hx
    rw [List.findIdx?_eq_some_iff_getElem]at hx
    obtain⟨_,h2,_⟩:=hx
    have h2:=of_decide_eq_true h2
    exact Prod.ext h2.1 h2.2
theorem atoms_key {z:RunV} {a:AtV} (h:a∈atomsOf z) {k:KeyT} (hk:klt k (z.clock,z.r,z.n)):klt k a.key:=by
 obtain⟨i,hi⟩:=List.mem_iff_getElem?.1 h
 rw [atomsOf_get]at hi
 cases hb:z.text[i]? with
 | none=>rw [hb]at hi;cases hi
 | some b=>
  rw [hb]at hi
  cases hi
  unfold klt AtV.key at *
  simp only at *
  omega
section
variable {ro:Nat→Option (List AVal)}
theorem shasG_ev {h:AHeap} {s:Nat} {O:Nat→Prop} {A:List AtV} {ar an:Nat} (S:StA zT h s O A) (ha:an < 2 ^ 32) {Q:AVal→AHeap→Prop} (hq:Q (.bool (atIx A ar an).isSome) h):Ev (cfgR ro) 149 [.ptr s 0,idA ar an] h Q:=by
 obtain⟨m,t,ix,a1,a2,a3,a4,a5,a6,a7⟩:=S
 refine has_ev a1 a2 ha (fun b hb=>?_)
 have:(atIx A ar an).isSome=b:=by
  cases b with
  | true=>
   obtain⟨p,hp,hh⟩:=hb.1 rfl
   cases e:atIx A ar an with
   | some i=>rfl
   | none=>
    rw [←a5]at e
    exact(atIx_none.1 e p.2 (List.mem_map.2 ⟨p,hp,rfl⟩) hh).elim
  | false=>
   have:atIx A ar an=none:=by
    rw [←a5]
    refine atIx_none.2 (fun y hy hh=>?_)
    obtain⟨p,hp,rfl⟩:=List.mem_map.1 hy
    have:=hb.2 ⟨p,hp,hh⟩;cases this
   rw [this];rfl
 rw [←this];exact hq
theorem where_ev (hro:ro 0=some [.int .u16 0,.int .u32 0]) {h:AHeap} {s:Nat} {O:Nat→Prop} {A:List AtV} {x:IdT} {k:KeyT} (S:StA zT h s O A) (hx:x.2 < 2 ^ 32) {Q:AVal→AHeap→Prop}
 (hq1:x≠(0,0)→atIx A x.1 x.2=none→Q (.tuple [idA 0 0,.int .i64 40]) h)
 (hq2:∀p0 H R (y:IdT) h',Old h h'→posA A x.1 x.2=some p0→A.drop p0=H++R→(∀z∈H,klt k z.key)→(∀z l,R=z :: l→¬klt k z.key)→posA A y.1 y.2=some (p0+H.length)→y.2 < 2 ^ 32→Q (.tuple [idA y.1 y.2,.int .i64 0]) h'):
 Ev (cfgR ro) 160 [.ptr s 0,idA x.1 x.2,keyA k.1 k.2.1 k.2.2] h Q:=by
 refine Ev.wp rfl rfl Tryz.func160 rfl ?_
 simp only [idA]at hq1 hq2
 simp -implicitDefEqProofs [Tryz.f160,idA,keyA,same_self]
 refine idRoot_ev hro ?_
 by_cases c:x.1=0∧x.2=0
 · have hpos:posA A x.1 x.2=some 0:=by unfold posA;rw [if_pos c]
   rw [decide_eq_true c]
   simp -implicitDefEqProofs [idA,keyA,same_self]
   have hnd:=S.nd
   have hps:=S.pos
   have hlen:=S.len
   have hnum:=S.num
   refine scope_loop2 (by simp [findLabel]) (fun m env h'=>Old h h'∧∃(H R:List AtV) (y:IdT),m=R.length∧A.drop 0=H++R∧(∀z∈H,klt k z.key)∧posA A y.1 y.2=some (0+H.length)∧y.2 < 2 ^ 32∧
    env=(.ptr s 0 :: .dead :: .dead :: .dead :: .dead :: .cell [.int .u64 k.1,.int .u16 k.2.1,.int .u32 k.2.2] :: .cell [.int .u16 0,.int .u32 0] :: .dead :: .cell [.int .u16 y.1,.int .u32 y.2] :: .dead :: .dead :: .dead :: .dead :: .dead :: .dead :: .dead :: .dead :: .dead :: .dead :: .dead :: .dead :: .dead :: .dead :: .dead :: .dead :: .dead :: .dead :: .dead :: .dead :: .dead :: .dead :: .dead :: .dead :: .dead :: .dead :: .dead :: .dead :: .dead :: .dead :: [])) ?_ (A.drop 0).length ⟨Old.refl h,[],A.drop 0,x,rfl,rfl,fun z hz=>(by cases hz),hpos,hx,rfl⟩
   rintro m env h' ih ⟨oo,H,R,y,rfl,e1,e2,e3,e4,rfl⟩
   have S':=S.keep oo
   have hdr:A.drop (0+H.length)=R:=by rw [←List.drop_drop,e1];simp
   simp -implicitDefEqProofs [idA,keyA,same_self]
   refine sbehind_ev hro S' (ar:=y.1) (an:=y.2) e4 (fun kk z rest q1 q2 q3 q4=>?_) (fun q1=>?_)
   · have hkk:kk=0+H.length:=by rw [e3]at q1;exact(Option.some.inj q1).symm
     rw [hkk,hdr]at q2
     have zp:=q3.pos
     have zn:=q3.n2
     simp -implicitDefEqProofs [idA,keyA,same_self,RunV.cells]
     refine keyCmp_ev (c:=z.clock) (r:=z.r) (n:=z.n) (c':=k.1) (r':=k.2.1) (n':=k.2.2) (fun h2 o2=>?_)
     have hgt:=cmpK_gt (z.clock,z.r,z.n) k
     obtain⟨cv,hcv⟩:∃cv,cv=cmpK (z.clock,z.r,z.n) (k.1,k.2.1,k.2.2):=⟨_,rfl⟩
     rw [←hcv]at hgt ⊢
     by_cases ck:0 < cv
     · have hlt:=hgt.1 ck
       have dk:decide (0 < cv)=true:=decide_eq_true ck
       simp -implicitDefEqProofs [idA,keyA,same_self,RunV.cells,dk,ck]
       refine rLast_ev (x:=z) zp (by omega) ?_
       obtain⟨ln,hln⟩:∃ln,ln=z.n+(z.text.length - 1):=⟨_,rfl⟩
       rw [←hln]
       simp -implicitDefEqProofs [idA,keyA,same_self,RunV.cells]
       refine ih rest.length ?_ _ _ ⟨oo.trans o2,H++atomsOf z,rest,(z.r,ln),rfl,by rw [e1,q2];simp,fun w hw=>?_,?_,by simp only [];omega,rfl⟩
       · rw [q2,List.length_append,atomsOf_len];omega
       · rcases List.mem_append.1 hw with hw | hw
         · exact e2 w hw
         · exact atoms_key hw hlt
       · have hlast:∃b,A[0+H.length+(z.text.length - 1)]?=some (z.atom (z.text.length - 1) b):=by
          have hb:z.text[z.text.length - 1]?=some (z.text[z.text.length - 1]'(by omega)):=List.getElem?_eq_getElem _
          refine⟨z.text[z.text.length - 1]'(by omega),?_⟩
          rw [←List.getElem?_drop,hdr,q2,List.getElem?_append_left (by rw [atomsOf_len];omega),atomsOf_get,hb];rfl
         obtain⟨b,hb⟩:=hlast
         have:=atIx_at' hnd hb
         have hne:¬(z.r=0∧ln=0):=by have:=q3.n1;omega
         unfold posA
         rw [if_neg hne]
         have e9:(z.atom (z.text.length - 1) b).n=ln:=by rw [hln];rfl
         rw [e9]at this
         have e8:(z.atom (z.text.length - 1) b).r=z.r:=rfl
         rw [e8]at this
         rw [this,List.length_append,atomsOf_len]
         simp only [Option.map_some];congr 1;omega
     · have dk:decide (0 < cv)=false:=decide_eq_false ck
       simp -implicitDefEqProofs [idA,keyA,same_self,RunV.cells,dk,ck]
       refine hq2 0 H R y h2 (oo.trans o2) hpos e1 e2 (fun w l e=>?_) e3 e4
       rw [q2]at e
       have hb:z.text[0]?=some (z.text[0]'(by omega)):=List.getElem?_eq_getElem _
       have h0:(atomsOf z++rest)[0]?=some (z.atom 0 (z.text[0]'(by omega))):=by
        rw [List.getElem?_append_left (by rw [atomsOf_len];omega),atomsOf_get,hb];rfl
       rw [e]at h0
       have h0:w=z.atom 0 (z.text[0]'(by omega)):=by simpa using h0
       rw [h0]
       exact fun hh=>ck (hgt.2 hh)
   · have hR:R=[]:=by
      have:=q1 _ e3
      have h2:=congrArg List.length hdr
      rw [List.length_drop]at h2
      exact List.length_eq_zero_iff.1 (by omega)
     simp -implicitDefEqProofs [idA,keyA,same_self,zeroRun]
     exact hq2 0 H R y h' oo hpos e1 e2 (fun w l e=>by rw [hR]at e;cases e) e3 e4
 · rw [decide_eq_false c]
   simp -implicitDefEqProofs [idA,keyA,same_self]
   refine shasG_ev S hx ?_
   cases hix:atIx A x.1 x.2 with
   | none=>
    simp -implicitDefEqProofs [idA,keyA,same_self]
    exact hq1 (fun e=>c ⟨by rw [e],by rw [e]⟩) hix
   | some i=>
    have hpos:posA A x.1 x.2=some (i+1):=by unfold posA;rw [if_neg c,hix];rfl
    simp -implicitDefEqProofs [idA,keyA,same_self]
    have hnd:=S.nd
    have hps:=S.pos
    have hlen:=S.len
    have hnum:=S.num
    refine scope_loop2 (by simp [findLabel]) (fun m env h'=>Old h h'∧∃(H R:List AtV) (y:IdT),m=R.length∧A.drop (i+1)=H++R∧(∀z∈H,klt k z.key)∧posA A y.1 y.2=some ((i+1)+H.length)∧y.2 < 2 ^ 32∧
     env=(.ptr s 0 :: .dead :: .dead :: .dead :: .dead :: .cell [.int .u64 k.1,.int .u16 k.2.1,.int .u32 k.2.2] :: .cell [.int .u16 0,.int .u32 0] :: .dead :: .cell [.int .u16 y.1,.int .u32 y.2] :: .dead :: .dead :: .dead :: .dead :: .dead :: .dead :: .dead :: .dead :: .dead :: .dead :: .dead :: .dead :: .dead :: .dead :: .dead :: .dead :: .dead :: .dead :: .dead :: .dead :: .dead :: .dead :: .dead :: .dead :: .dead :: .dead :: .dead :: .dead :: .dead :: .dead :: [])) ?_ (A.drop (i+1)).length ⟨Old.refl h,[],A.drop (i+1),x,rfl,rfl,fun z hz=>(by cases hz),hpos,hx,rfl⟩
    rintro m env h' ih ⟨oo,H,R,y,rfl,e1,e2,e3,e4,rfl⟩
    have S':=S.keep oo
    have hdr:A.drop ((i+1)+H.length)=R:=by rw [←List.drop_drop,e1];simp
    simp -implicitDefEqProofs [idA,keyA,same_self]
    refine sbehind_ev hro S' (ar:=y.1) (an:=y.2) e4 (fun kk z rest q1 q2 q3 q4=>?_) (fun q1=>?_)
    · have hkk:kk=(i+1)+H.length:=by rw [e3]at q1;exact(Option.some.inj q1).symm
      rw [hkk,hdr]at q2
      have zp:=q3.pos
      have zn:=q3.n2
      simp -implicitDefEqProofs [idA,keyA,same_self,RunV.cells]
      refine keyCmp_ev (c:=z.clock) (r:=z.r) (n:=z.n) (c':=k.1) (r':=k.2.1) (n':=k.2.2) (fun h2 o2=>?_)
      have hgt:=cmpK_gt (z.clock,z.r,z.n) k
      obtain⟨cv,hcv⟩:∃cv,cv=cmpK (z.clock,z.r,z.n) (k.1,k.2.1,k.2.2):=⟨_,rfl⟩
      rw [←hcv]at hgt ⊢
      by_cases ck:0 < cv
      · have hlt:=hgt.1 ck
        have dk:decide (0 < cv)=true:=decide_eq_true ck
        simp -implicitDefEqProofs [idA,keyA,same_self,RunV.cells,dk,ck]
        refine rLast_ev (x:=z) zp (by omega) ?_
        obtain⟨ln,hln⟩:∃ln,ln=z.n+(z.text.length - 1):=⟨_,rfl⟩
        rw [←hln]
        simp -implicitDefEqProofs [idA,keyA,same_self,RunV.cells]
        refine ih rest.length ?_ _ _ ⟨oo.trans o2,H++atomsOf z,rest,(z.r,ln),rfl,by rw [e1,q2];simp,fun w hw=>?_,?_,by simp only [];omega,rfl⟩
        · rw [q2,List.length_append,atomsOf_len];omega
        · rcases List.mem_append.1 hw with hw | hw
          · exact e2 w hw
          · exact atoms_key hw hlt
        · have hlast:∃b,A[(i+1)+H.length+(z.text.length - 1)]?=some (z.atom (z.text.length - 1) b):=by
           have hb:z.text[z.text.length - 1]?=some (z.text[z.text.length - 1]'(by omega)):=List.getElem?_eq_getElem _
           refine⟨z.text[z.text.length - 1]'(by omega),?_⟩
           rw [←List.getElem?_drop,hdr,q2,List.getElem?_append_left (by rw [atomsOf_len];omega),atomsOf_get,hb];rfl
          obtain⟨b,hb⟩:=hlast
          have:=atIx_at' hnd hb
          have hne:¬(z.r=0∧ln=0):=by have:=q3.n1;omega
          unfold posA
          rw [if_neg hne]
          have e9:(z.atom (z.text.length - 1) b).n=ln:=by rw [hln];rfl
          rw [e9]at this
          have e8:(z.atom (z.text.length - 1) b).r=z.r:=rfl
          rw [e8]at this
          rw [this,List.length_append,atomsOf_len]
          simp only [Option.map_some];congr 1;omega
      · have dk:decide (0 < cv)=false:=decide_eq_false ck
        simp -implicitDefEqProofs [idA,keyA,same_self,RunV.cells,dk,ck]
        refine hq2 (i+1) H R y h2 (oo.trans o2) hpos e1 e2 (fun w l e=>?_) e3 e4
        rw [q2]at e
        have hb:z.text[0]?=some (z.text[0]'(by omega)):=List.getElem?_eq_getElem _
        have h0:(atomsOf z++rest)[0]?=some (z.atom 0 (z.text[0]'(by omega))):=by
         rw [List.getElem?_append_left (by rw [atomsOf_len];omega),atomsOf_get,hb];rfl
        rw [e]at h0
        have h0:w=z.atom 0 (z.text[0]'(by omega)):=by simpa using h0
        rw [h0]
        exact fun hh=>ck (hgt.2 hh)
    · have hR:R=[]:=by
       have:=q1 _ e3
       have h2:=congrArg List.length hdr
       rw [List.length_drop]at h2
       exact List.length_eq_zero_iff.1 (by omega)
      simp -implicitDefEqProofs [idA,keyA,same_self,zeroRun]
      exact hq2 (i+1) H R y h' oo hpos e1 e2 (fun w l e=>by rw [hR]at e;cases e) e3 e4
end
end Go.Proofs.YtlhlbamcgopiiaaGreatDoor
set_option linter.all false
set_option maxRecDepth 100000
set_option maxHeartbeats 4000000
namespace Go.Proofs.YtlhlbamcgopiiaaGreatDoor
open Go Go.RowKit Go.Proofs
variable {zT:List AVal}
def RunV.key (x:RunV):KeyT:=(x.clock,x.r,x.n)
section
variable {ro:Nat→Option (List AVal)}
theorem gput_ok_ev (hro:ro 0=some [.int .u16 0,.int .u32 0]) {h:AHeap} {s p0:Nat} {O:Nat→Prop} {A:List AtV} {x:IdT} {r:RunV} (S:StA zT h s O A) (hx:x.2 < 2 ^ 32) (hr:RunOk r) (hp:plain r.text=true) (hpos:posA A x.1 x.2=some p0) (hhit:hitA A r=false) (hlen:A.length+r.text.length≤65536) {Q:AVal→AHeap→Prop}
 (hq:∀H R h' O',A.drop p0=H++R→(∀z∈H,klt r.key z.key)→(∀z l,R=z :: l→¬klt r.key z.key)→StA zT h' s O' (A.take p0++(H++(atomsOf r++R)))→Stp h O h' O'→Q (.int .i64 0) h'):
 Ev (cfgR ro) 115 [.ptr s 0,idA x.1 x.2,.agg r.cells] h Q:=by
 refine Ev.wp rfl rfl Tryz.func115 rfl ?_
 have hrl:=hr.len
 have hrn:=hr.n2
 have hre:=hr.e2
 have hrp:=hr.pos
 simp -implicitDefEqProofs [Tryz.f115,idA,RunV.cells,same_self]
 refine rRight_ev (x:=r) (by omega) (by omega) (by omega) (fun h0 b o0 hb=>?_)
 have hbt:b=true:=hb.2 ⟨hr,hp⟩
 subst hbt
 have S0:=S.keep o0
 simp -implicitDefEqProofs [same_self]
 refine where_ev hro (x:=x) (k:=(r.clock,r.r,r.n)) S0 hx (fun h1 h2=>?_) (fun p H R y h1 o1 e1 e2 e3 e4 e5 e6=>?_)
 · unfold posA at hpos
   rw [if_neg (fun c=>h1 (Prod.ext c.1 c.2)),h2]at hpos;cases hpos
 · have hpp:p=p0:=by rw [e1]at hpos;exact Option.some.inj hpos
   subst hpp
   have S1:=S0.keep o1
   simp -implicitDefEqProofs [same_self,idA]
   refine sput_ev hro (x:=r) (ar:=y.1) (an:=y.2) S1 e6 (by omega) (by omega) (by omega) (fun h2 O2 S2 P2=>?_)
   have hpl:p≤A.length:=by
    rcases posA_iff (x:=x) hpos with ⟨_,e⟩ | ⟨i,a,e,_,e'⟩
    · omega
    · have:=(List.getElem?_eq_some_iff.1 e).1;omega
   have hput:putA A y.1 y.2 r=(A.take p++(H++(atomsOf r++R)),0):=by
    unfold putA
    rw [if_neg (fun c=>c ⟨hr,hp⟩),e5]
    simp only [hhit,Bool.false_eq_true,if_false]
    rw [if_neg (by omega)]
    have t1:A.take (p+H.length)=A.take p++H:=by
     have:A=A.take p++(H++R):=by rw [←e2,List.take_append_drop]
     have hl:(A.take p).length=p:=by rw [List.length_take];omega
     conv=>lhs;rw [this]
     rw [show p+H.length=(A.take p).length+H.length by rw [hl],List.take_length_add_append,List.take_left]
    have t2:A.drop (p+H.length)=R:=by rw [←List.drop_drop,e2];simp
    rw [t1,t2];simp
   rw [hput]at S2 ⊢
   simp -implicitDefEqProofs
   exact hq H R h2 O2 e2 e3 e4 S2 ((Stp.ofOld O (o0.trans o1)).trans P2)
theorem ganch_ev (hro:ro 0=some [.int .u16 0,.int .u32 0]) {h:AHeap} {s:Nat} {O:Nat→Prop} {A:List AtV} {x:IdT} {k:KeyT} (S:StA zT h s O A) (hx:x.2 < 2 ^ 32) {Q:AVal→AHeap→Prop}
 (hq:∀b h',Old h h'→(b=true↔(x=(0,0)∨∃a∈A,a.id=x∧klt a.key k))→Q (.bool b) h'):
 Ev (cfgR ro) 147 [.ptr s 0,idA x.1 x.2,keyA k.1 k.2.1 k.2.2] h Q:=by
 refine Ev.wp rfl rfl Tryz.func147 rfl ?_
 have hnd:=S.nd
 simp -implicitDefEqProofs [Tryz.f147,idA,keyA,same_self]
 refine sget_ev S hx (fun i a e1 e2=>?_) (fun hnone=>?_)
 · have hne:x≠(0,0):=fun e=>by
    have hp:=S.pos a (List.mem_of_getElem? e2)
    unfold atIx at e1
    rw [List.findIdx?_eq_some_iff_getElem]at e1
    obtain⟨l,h2,_⟩:=e1
    obtain⟨l2,e3⟩:=List.getElem?_eq_some_iff.1 e2
    rw [e3]at h2
    have h2:=of_decide_eq_true h2
    rw [e]at h2
    simp only at h2
    omega
   have hid:a.id=x:=by
    unfold atIx at e1
    rw [List.findIdx?_eq_some_iff_getElem]at e1
    obtain⟨l,h2,_⟩:=e1
    obtain⟨l2,e3⟩:=List.getElem?_eq_some_iff.1 e2
    rw [e3]at h2
    have h2:=of_decide_eq_true h2
    exact Prod.ext h2.1 h2.2
   simp -implicitDefEqProofs [idA,keyA,same_self,AtV.cells]
   refine idRoot_ev hro ?_
   rw [decide_eq_false (fun c:x.1=0∧x.2=0=>hne (Prod.ext c.1 c.2))]
   simp -implicitDefEqProofs [idA,keyA,same_self,AtV.cells]
   refine keyCmp_ev (c:=a.clock) (r:=a.r) (n:=a.n) (c':=k.1) (r':=k.2.1) (n':=k.2.2) (fun h2 o2=>?_)
   have hlt:=cmpK_lt (a.clock,a.r,a.n) k
   obtain⟨cv,hcv⟩:∃cv,cv=cmpK (a.clock,a.r,a.n) (k.1,k.2.1,k.2.2):=⟨_,rfl⟩
   rw [←hcv]at hlt ⊢
   simp -implicitDefEqProofs [idA,keyA,same_self,AtV.cells]
   refine hq _ h2 o2 ?_
   rw [decide_eq_true_iff,hlt]
   constructor
   · intro hk;exact .inr ⟨a,List.mem_of_getElem? e2,hid,hk⟩
   · rintro(e | ⟨b,hb,e,hk⟩)
     · exact(hne e).elim
     · have:b=a:=by
        obtain⟨j,hj⟩:=List.mem_iff_getElem?.1 hb
        have h3:=atIx_at' hnd hj
        have h4:=atIx_at' hnd e2
        have e5:b.r=a.r∧b.n=a.n:=by
         have:=e.trans hid.symm
         unfold AtV.id at this
         simp only [Prod.mk.injEq]at this;exact this
        rw [e5.1,e5.2,h4]at h3
        cases h3
        rw [e2]at hj;exact(Option.some.inj hj).symm
       rw [this]at hk;exact hk
 · simp -implicitDefEqProofs [idA,keyA,same_self,zeroAtom]
   refine idRoot_ev hro ?_
   by_cases c:x.1=0∧x.2=0
   · rw [decide_eq_true c]
     simp -implicitDefEqProofs [idA,keyA,same_self,zeroAtom]
     exact hq true h (Old.refl h) ⟨fun _=>.inl (Prod.ext c.1 c.2),fun _=>rfl⟩
   · rw [decide_eq_false c]
     simp -implicitDefEqProofs [idA,keyA,same_self,zeroAtom]
     refine hq false h (Old.refl h) ⟨fun e=>(nomatch e),fun hh=>?_⟩
     rcases hh with e | ⟨a,ha,e,_⟩
     · exact(c ⟨by rw [e],by rw [e]⟩).elim
     · obtain⟨j,hj⟩:=List.mem_iff_getElem?.1 ha
       have:=atIx_at' hnd hj
       have e5:a.r=x.1∧a.n=x.2:=by rw [←e];exact⟨rfl,rfl⟩
       rw [e5.1,e5.2,hnone]at this;cases this
end
end Go.Proofs.YtlhlbamcgopiiaaGreatDoor
set_option linter.all false
set_option maxRecDepth 100000
set_option maxHeartbeats 4000000
namespace Go.Proofs.YtlhlbamcgopiiaaGreatDoor
open Go Go.RowKit Go.Proofs
variable {zT:List AVal}
theorem StA.keepO {h h':AHeap} {s:Nat} {O:Nat→Prop} {A:List AtV} (S:StA zT h s O A) (k:∀o,O o→h'.get o=h.get o) (hn:h.next≤h'.next):StA zT h' s O A:=by
 obtain⟨m,t,ix,a1,a2,a3,a4,a5,a6,rfl⟩:=S
 have kk:∀q,IObj m h q→h'.get q=h.get q:=fun q hq=>k q (.inr (.inr hq))
 have kt:∀q,q∈t.ids→h'.get q=h.get q:=fun q hq=>k q (.inr (.inl hq))
 obtain⟨⟨s0,hr⟩,b2,b3,b4,b5,b6⟩:=a1.rp
 refine⟨m,t,ix,⟨⟨⟨s0,by rw [k s (.inl rfl)];exact hr⟩,At.congr kt b2,b3,b4,Nat.lt_of_lt_of_le b5 hn,fun o ho=>Nat.lt_of_lt_of_le (b6 o ho) hn⟩,a1.ix.keep kk hn,a1.sub,fun o ho=>a1.sep o ((IObj.keep a1 kk o).1 ho)⟩,a2,a3,a4,a5,a6,funext fun q=>propext ?_⟩
 unfold SOwn
 rw [IObj.keep a1 kk]
theorem StA.row {h:AHeap} {s:Nat} {O:Nat→Prop} {A:List AtV} (S:StA zT h s O A):O s∧∃p sd m,h.get s=some (.row 0 false (p :: .int .u64 sd :: m :: zT))∧
 ∀{zU:List AVal} {h':AHeap},h'.get s=some (.row 0 false (p :: .int .u64 sd :: m :: zU))→(∀o,O o→o≠s→h'.get o=h.get o)→h.next≤h'.next→StA zU h' s O A:=by
 obtain⟨m,t,ix,a1,a2,a3,a4,a5,a6,rfl⟩:=S
 obtain⟨⟨s0,hr⟩,b2,b3,b4,b5,b6⟩:=a1.rp
 refine⟨.inl rfl,t.ptr,s0,m,by rw [rrow]at hr;exact hr,?_⟩
 intro zU h' hr' k hn
 have kk:∀q,IObj m h q→h'.get q=h.get q:=fun q hq=>k q (.inr (.inr hq)) (a1.sep q hq).1
 have kt:∀q,q∈t.ids→h'.get q=h.get q:=fun q hq=>k q (.inr (.inl hq)) (fun e=>b4 (by rw [←e];exact hq))
 have R:Rp ([],m :: zU) h' s t:=⟨⟨s0,by rw [rrow];exact hr'⟩,At.congr kt b2,b3,b4,Nat.lt_of_lt_of_le b5 hn,fun o ho=>Nat.lt_of_lt_of_le (b6 o ho) hn⟩
 have I:∀o,IObj m h' o↔IObj m h o:=IObj.keep a1 kk
 refine⟨m,t,ix,⟨R,a1.ix.keep kk hn,a1.sub,fun o ho=>a1.sep o ((I o).1 ho)⟩,a2,a3,a4,a5,a6,funext fun q=>propext ?_⟩
 unfold SOwn
 rw [I]
theorem StA.new (h:AHeap):StA zT (h.push (.row 0 false (.nilp :: .int .u64 0 :: .nilm :: zT))) h.next (fun o=>o=h.next) []:=by
 refine⟨.nilm,.nil,fun _=>[],⟨⟨⟨0,get_push_next _ _⟩,trivial,List.nodup_nil,by simp [Rt.ids,Rt.items],by simp,by simp [Rt.ids,Rt.items]⟩,⟨fun r p=>by simp [Rt.items],fun r=>List.Pairwise.nil,.inl ⟨rfl,fun _=>rfl⟩⟩,fun p hp=>hp,fun o ho=>(by obtain⟨q,e,_⟩:=ho;cases e)⟩,⟨fun p hp=>(by cases hp),List.Pairwise.nil⟩,fun p hp=>(by cases hp),by simp [Rt.at_,Rt.rs,Rt.items,atomsN],rfl,fun _=>trivial,funext fun o=>propext ?_⟩
 unfold SOwn
 constructor
 · exact fun e=>.inl e
 · rintro(e | e | ⟨q,e,_⟩)
   · exact e
   · simp [Rt.ids,Rt.items]at e
   · cases e
def lookI {α:Type}:List (IdT×α)→IdT→Option α
 | [],_=>none
 | p :: l,k=>if k=p.1 then some p.2 else lookI l k
def putI {α:Type}:List (IdT×α)→IdT→α→List (IdT×α)
 | [],k,v=>[(k,v)]
 | p :: l,k,v=>if k=p.1 then(p.1,v) :: l else p :: putI l k v
theorem look_put {α:Type} (k:IdT) (v:α) (k':IdT):∀l:List (IdT×α),lookI (putI l k v) k'=if k'=k then some v else lookI l k'
 | []=>by
  show(if k'=k then some v else none)=_
  rfl
 | p :: l=>by
  unfold putI
  by_cases e:k=p.1
  · rw [if_pos e]
    show(if k'=p.1 then some v else lookI l k')=if k'=k then some v else(if k'=p.1 then some p.2 else lookI l k')
    by_cases e2:k'=k
    · rw [if_pos (e2.trans e),if_pos e2]
    · rw [if_neg (fun e3=>e2 (e3.trans e.symm)),if_neg e2,if_neg (fun e3=>e2 (e3.trans e.symm))]
  · rw [if_neg e]
    show(if k'=p.1 then some p.2 else lookI (putI l k v) k')=if k'=k then some v else(if k'=p.1 then some p.2 else lookI l k')
    by_cases e2:k'=p.1
    · rw [if_pos e2,if_neg (fun e3=>e (e3.symm.trans e2)),if_pos e2]
    · rw [if_neg e2,look_put k v k' l,if_neg e2]
theorem look_map_ {α β:Type} (f:IdT→α→β) (k:IdT):∀l:List (IdT×α),lookI (l.map fun p=>(p.1,f p.1 p.2)) k=(lookI l k).map (f k)
 | []=>rfl
 | p :: l=>by
  show(if k=p.1 then some (f p.1 p.2)else lookI (l.map fun p=>(p.1,f p.1 p.2)) k)=Option.map (f k) (if k=p.1 then some p.2 else lookI l k)
  by_cases e:k=p.1
  · rw [if_pos e,if_pos e,e];rfl
  · rw [if_neg e,if_neg e,look_map_ f k l]
theorem put_same {α β:Type} (g:IdT→β) (k:IdT) (v:α):∀{l:List (IdT×α)},lookI l k≠none→(putI l k v).map (fun p=>(p.1,g p.1))=l.map fun p=>(p.1,g p.1)
 | [],h=>(h rfl).elim
 | p :: l,h=>by
  unfold putI
  by_cases e:k=p.1
  · rw [if_pos e];rfl
  · rw [if_neg e,List.map_cons,List.map_cons,put_same g k v (l:=l) (by unfold lookI at h;rw [if_neg e]at h;exact h)]
theorem put_put {α β:Type} (g:IdT→β) (k:IdT) (v:α) (w:β):∀(l:List (IdT×α)),(l.map (·.1)).Nodup→(putI l k v).map (fun p=>(p.1,if p.1=k then w else g p.1))=putI (l.map fun p=>(p.1,g p.1)) k w
 | [],_=>by simp [putI]
 | p :: l,hn=>by
  rw [List.map_cons,List.nodup_cons]at hn
  unfold putI
  by_cases e:k=p.1
  · rw [if_pos e]
    simp only [List.map_cons]
    rw [if_pos e,if_pos e.symm]
    congr 1
    refine List.map_congr_left fun q hq=>?_
    rw [if_neg (fun e2=>hn.1 (List.mem_map.2 ⟨q,hq,e2.trans e⟩))]
  · rw [if_neg e]
    simp only [List.map_cons]
    rw [if_neg (fun e2=>e e2.symm),if_neg e,put_put g k v w l hn.2]
theorem put_nodup {α:Type} (k:IdT) (v:α):∀{l:List (IdT×α)},(l.map (·.1)).Nodup→((putI l k v).map (·.1)).Nodup
 | [],_=>by simp [putI]
 | p :: l,hn=>by
  have h:=hn
  rw [List.map_cons,List.nodup_cons]at hn
  unfold putI
  by_cases e:k=p.1
  · rw [if_pos e];exact h
  · rw [if_neg e,List.map_cons,List.nodup_cons]
    refine⟨fun hm=>?_,put_nodup k v hn.2⟩
    have key:∀l:List (IdT×α),p.1∈(putI l k v).map (·.1)→p.1=k∨p.1∈l.map (·.1):=by
     intro l
     induction l with
     | nil=>intro h;simp [putI]at h;exact .inl h
     | cons q l ih=>
      intro h
      unfold putI at h
      by_cases e2:k=q.1
      · rw [if_pos e2]at h;exact .inr h
      · rw [if_neg e2,List.map_cons]at h
        rcases List.mem_cons.1 h with h | h
        · exact .inr (by rw [List.map_cons];exact List.mem_cons.2 (.inl h))
        · exact(ih h).imp_right fun h=>by rw [List.map_cons];exact List.mem_cons.2 (.inr h)
    rcases key l hm with h1 | h1
    · exact e h1.symm
    · exact hn.1 h1
def entI (ks:List (IdT×AVal)):List (AVal×AVal):=ks.map fun k=>(.agg [.int .u16 k.1.1,.int .u32 k.1.2],k.2)
def lookJ:List (IdT×AVal)→IdT→Nat→Option (Nat×AVal)
 | [],_,_=>none
 | k :: ks,r,i=>if r=k.1 then some (i,k.2)else lookJ ks r (i+1)
theorem lookJ_look:∀(ks:List (IdT×AVal)) (r:IdT) (i:Nat),(lookJ ks r i).map (·.2)=lookI ks r
 | [],_,_=>rfl
 | k :: ks,r,i=>by
  unfold lookJ lookI
  by_cases e:r=k.1
  · rw [if_pos e,if_pos e];rfl
  · rw [if_neg e,if_neg e];exact lookJ_look ks r (i+1)
theorem lookJ_some:∀{ks:List (IdT×AVal)} {r:IdT} {j i:Nat} {w v:AVal},lookJ ks r j=some (i,w)→∃n,i=j+n∧(entI ks)[n]?=some (.agg [.int .u16 r.1,.int .u32 r.2],w)∧setVal (entI ks) n v=entI (putI ks r v)
 | [],r,j,i,w,v,h=>by cases h
 | k :: ks,r,j,i,w,v,h=>by
  unfold lookJ at h
  unfold putI
  by_cases e:r=k.1
  · rw [if_pos e]at h
    cases h
    rw [if_pos e]
    exact⟨0,rfl,by rw [e];rfl,rfl⟩
  · rw [if_neg e]at h
    rw [if_neg e]
    obtain⟨n,h1,h2,h3⟩:=lookJ_some (v:=v) h
    exact⟨n+1,by omega,h2,congrArg ((AVal.agg [.int .u16 k.1.1,.int .u32 k.1.2],k.2) :: ·) h3⟩
theorem lookJ_none:∀{ks:List (IdT×AVal)} {r:IdT} {j:Nat} {v:AVal},lookJ ks r j=none→entI ks++[(.agg [.int .u16 r.1,.int .u32 r.2],v)]=entI (putI ks r v)
 | [],r,j,v,h=>rfl
 | k :: ks,r,j,v,h=>by
  unfold lookJ at h
  unfold putI
  by_cases e:r=k.1
  · rw [if_pos e]at h;cases h
  · rw [if_neg e]at h
    rw [if_neg e]
    exact congrArg ((AVal.agg [.int .u16 k.1.1,.int .u32 k.1.2],k.2) :: ·) (lookJ_none (v:=v) h)
section
variable {ro:Nat→Option (List AVal)}
def eqNN (ro:Nat→Option (List AVal)) (T:Nat):Prop:=∀(h:AHeap) (a b c d:Nat),eqIn (cfgR ro) h 10000 T (.agg [.int .u16 a,.int .u32 b]) (.agg [.int .u16 c,.int .u32 d])=.ok (decide (a=c∧b=d))
theorem findR_I {T:Nat} (hT:eqNN ro T) (h:AHeap) (r:IdT):∀(ks:List (IdT×AVal)) (i:Nat),findR (cfgR ro) h T (.agg [.int .u16 r.1,.int .u32 r.2]) (entI ks) i=.ok (lookJ ks r i)
 | [],i=>rfl
 | k :: ks,i=>by
  show(eqIn (cfgR ro) h 10000 T _ (.agg [.int .u16 k.1.1,.int .u32 k.1.2])).bind _=_
  rw [hT]
  unfold lookJ
  by_cases e:r=k.1
  · have:(r.1=k.1.1∧r.2=k.1.2):=by rw [e];exact⟨rfl,rfl⟩
    rw [decide_eq_true this,if_pos e];rfl
  · have:¬(r.1=k.1.1∧r.2=k.1.2):=fun h=>e (Prod.ext h.1 h.2)
    rw [decide_eq_false this,if_neg e]
    exact findR_I hT h r ks (i+1)
structure MTy (ro:Nat→Option (List AVal)) (MT KT:Nat) (z:AVal):Prop where
 m:∃VT,mapTypes Tryz.prog MT=.ok (KT,VT)∧zeroV Tryz.prog VT=.ok z
 k:∀a b,keyFits Tryz.prog KT (.agg [a,b])=true
 e:eqNN ro KT
theorem look_I {MT KT:Nat} {z:AVal} (Y:MTy ro MT KT z) {h:AHeap} {m:AVal} {ks:List (IdT×AVal)} (hg:(m=.nilm∧ks=[])∨∃q,m=.map q∧h.get q=some (.map (entI ks))) (r:IdT):
 lookupR (cfgR ro) h MT m (.agg [.int .u16 r.1,.int .u32 r.2]) false=.ok ((lookI ks r).getD z):=by
 obtain⟨VT,hm,hz⟩:=Y.m
 unfold lookupR
 rcases hg with ⟨rfl,rfl⟩ | ⟨q,rfl,hg⟩
 · simp [hm,hz,entriesR,Y.k,findR,lookI]
 · simp [hm,hz,hg,entriesR,Y.k,findR_I Y.e]
   rw [←lookJ_look ks r 0]
   cases lookJ ks r 0 with
   | none=>simp [hz]
   | some x=>rfl
theorem put_I {MT KT:Nat} {z:AVal} (Y:MTy ro MT KT z) {h:AHeap} {q:Nat} {ks:List (IdT×AVal)} (hg:h.get q=some (.map (entI ks))) (r:IdT) (v:AVal):
 mapUpdateR (cfgR ro) h MT (.map q) (.agg [.int .u16 r.1,.int .u32 r.2]) v=.ok (h.set q (.map (entI (putI ks r v)))):=by
 obtain⟨VT,hm,hz⟩:=Y.m
 unfold mapUpdateR
 simp [hm,hg,Y.k,findR_I Y.e]
 cases hl:lookJ ks r 0 with
 | none=>
  simp
  rw [lookJ_none hl]
 | some x=>
  obtain⟨i,w⟩:=x
  obtain⟨n,h1,h2,h3⟩:=lookJ_some (v:=v) hl
  rw [Nat.zero_add]at h1
  subst h1
  have hb:AVal.beq (.agg [.int .u16 r.1,.int .u32 r.2]) (.agg [.int .u16 r.1,.int .u32 r.2])=true:=AVal.beq_refl _
  simp [h2,h3,hb]
theorem eqTx0 (h:AHeap) (a b c d:Nat):eqIn (cfgR ro) h 10000 70 (.agg [.int .u16 a,.int .u32 b]) (.agg [.int .u16 c,.int .u32 d])=(match (a:Int) == (c:Int)with | true=>(match (b:Int) == (d:Int)with | true=>.ok true | false=>.ok false) | false=>.ok false):=by kernel_rfl
theorem eqTx:eqNN ro 70:=by
 intro h a b c d
 rw [eqTx0]
 by_cases e1:a=c
 · by_cases e2:b=d
   · subst e1;subst e2;simp
   · have:((b:Int) == (d:Int))=false:=by simp;omega
     simp [e1,e2,this]
 · have:((a:Int) == (c:Int))=false:=by simp;omega
   simp [e1,this]
theorem mtD:MTy ro 35 70 .nilp:=⟨⟨194,by kernel_rfl,by kernel_rfl⟩,fun a b=>by kernel_rfl,eqTx⟩
theorem mtL:MTy ro 36 55 .nilp:=⟨⟨206,by kernel_rfl,by kernel_rfl⟩,fun a b=>by kernel_rfl,eqID⟩
theorem mtS:MTy ro 32 55 .nils:=⟨⟨210,by kernel_rfl,by kernel_rfl⟩,fun a b=>by kernel_rfl,eqID⟩
end
end Go.Proofs.YtlhlbamcgopiiaaGreatDoor
set_option linter.all false
set_option maxRecDepth 100000
set_option maxHeartbeats 4000000
namespace Go.Proofs.YtlhlbamcgopiiaaGreatDoor
open Go Go.RowKit Go.Proofs
inductive Tg where
 | other
 | store
 | smap
 | dmap
 | lmap
 | deed (k:IdT)
 | touch (k:IdT)
 | life (k:IdT)
 | gone (k:IdT)
 | spots (k:IdT)
structure Dl where
 undone:Int
 touched:List IdT
 undoes:Bool
structure Lf where
 made:IdT
 gone:List IdT
abbrev Sp:=KeyT×IdT
structure CV where
 A:List AtV
 sp:List (IdT×List Sp)
 nsp:Nat
 deeds:List (IdT×Dl)
 lives:List (IdT×Lf)
 clock:Nat
 elems:Nat
def CV.nil:CV:=⟨[],[],0,[],[],0,0⟩
def idc (x:IdT):List AVal:=[.int .u16 x.1,.int .u32 x.2]
def spc (x:Sp):List AVal:=[.int .u64 x.1.1,.int .u16 x.1.2.1,.int .u32 x.1.2.2,.int .u16 x.2.1,.int .u32 x.2.2]
def hZ:AHeap:=⟨.nil,0⟩
def MapOk (h:AHeap) (col:Nat→Tg) (tg:Tg) (m:AVal) (ks:List (IdT×AVal)):Prop:=(m=.nilm∧ks=[])∨∃q,m=.map q∧q < h.next∧col q=tg∧h.get q=some (.map (entI ks))
structure OwnS (h:AHeap) (col:Nat→Tg) (tg:Tg) (sz:Nat) (es:List (List AVal)) (v:AVal):Prop where
 m:Mine hZ h sz es v
 c:∀o,vobj v o→col o=tg
def DeedOk (h:AHeap) (col:Nat→Tg) (k:IdT) (d:Dl) (v:AVal):Prop:=∃p t,v=.ptr p 0∧p < h.next∧col p=.deed k∧h.get p=some (.row 0 false [.int .i64 d.undone,t,.bool d.undoes])∧OwnS h col (.touch k) 2 (d.touched.map idc) t
def LifeOk (h:AHeap) (col:Nat→Tg) (k:IdT) (l:Lf) (v:AVal):Prop:=∃p t,v=.ptr p 0∧p < h.next∧col p=.life k∧h.get p=some (.row 0 false [.int .u16 l.made.1,.int .u32 l.made.2,t])∧OwnS h col (.gone k) 2 (l.gone.map idc) t
def tailC (D:CV) (spm dm lm:AVal):List AVal:=[spm,.int .i64 (D.nsp:Nat),dm,lm,.int .u64 (D.clock:Nat),.int .i64 (D.elems:Nat)]
structure CStX (h:AHeap) (s:Nat) (col:Nat→Tg) (D:CV) (spm dm lm:AVal) (fs fd fl:IdT→AVal):Prop where
 st:StA (tailC D spm dm lm) h s (fun o=>col o=.store) D.A
 mS:MapOk h col .smap spm (D.sp.map fun p=>(p.1,fs p.1))
 mD:MapOk h col .dmap dm (D.deeds.map fun p=>(p.1,fd p.1))
 mL:MapOk h col .lmap lm (D.lives.map fun p=>(p.1,fl p.1))
 nn:dm=.nilm↔lm=.nilm
 ns:(D.sp.map (·.1)).Nodup
 nd:(D.deeds.map (·.1)).Nodup
 nl:(D.lives.map (·.1)).Nodup
 sp:∀k l,lookI D.sp k=some l→OwnS h col (.spots k) 5 (l.map spc) (fs k)
 de:∀k d,lookI D.deeds k=some d→DeedOk h col k d (fd k)
 li:∀k l,lookI D.lives k=some l→LifeOk h col k l (fl k)
 lt:∀o,col o≠.other→o < h.next
def CSt (h:AHeap) (s:Nat) (O:Nat→Prop) (D:CV):Prop:=∃col spm dm lm fs fd fl,O=(fun o=>col o≠.other)∧CStX h s col D spm dm lm fs fd fl
section
variable {h h':AHeap} {s:Nat} {col col':Nat→Tg} {D:CV} {spm dm lm:AVal} {fs fd fl:IdT→AVal}
theorem MapOk.keep {tg:Tg} {m:AVal} {ks:List (IdT×AVal)} (M:MapOk h col tg m ks) (k:∀o,o < h.next→col o=tg→h'.get o=h.get o∧col' o=tg) (hn:h.next≤h'.next):MapOk h' col' tg m ks:=by
 rcases M with h1 | ⟨q,e,h1,h2,h3⟩
 · exact .inl h1
 · exact .inr ⟨q,e,Nat.lt_of_lt_of_le h1 hn,(k q h1 h2).2,by rw [(k q h1 h2).1];exact h3⟩
theorem OwnS.keep {tg:Tg} {sz:Nat} {es:List (List AVal)} {v:AVal} (M:OwnS h col tg sz es v) (k:∀o,o < h.next→col o=tg→h'.get o=h.get o∧col' o=tg) (hn:h.next≤h'.next):OwnS h' col' tg sz es v:=
 ⟨M.m.keepO (fun o ho=>(k o (M.m.obj o ho).2 (M.c o ho)).1) hn,fun o ho=>(k o (M.m.obj o ho).2 (M.c o ho)).2⟩
theorem DeedOk.keep {k:IdT} {d:Dl} {v:AVal} (M:DeedOk h col k d v) (kk:∀o,o < h.next→(col o=.deed k∨col o=.touch k)→h'.get o=h.get o∧col' o=col o) (hn:h.next≤h'.next):DeedOk h' col' k d v:=by
 obtain⟨p,t,e,h1,h2,h3,h4⟩:=M
 exact⟨p,t,e,Nat.lt_of_lt_of_le h1 hn,by rw [(kk p h1 (.inl h2)).2,h2],by rw [(kk p h1 (.inl h2)).1];exact h3,h4.keep (fun o ho hc=>by rw [(kk o ho (.inr hc)).2];exact⟨(kk o ho (.inr hc)).1,hc⟩) hn⟩
theorem LifeOk.keep {k:IdT} {d:Lf} {v:AVal} (M:LifeOk h col k d v) (kk:∀o,o < h.next→(col o=.life k∨col o=.gone k)→h'.get o=h.get o∧col' o=col o) (hn:h.next≤h'.next):LifeOk h' col' k d v:=by
 obtain⟨p,t,e,h1,h2,h3,h4⟩:=M
 exact⟨p,t,e,Nat.lt_of_lt_of_le h1 hn,by rw [(kk p h1 (.inl h2)).2,h2],by rw [(kk p h1 (.inl h2)).1];exact h3,h4.keep (fun o ho hc=>by rw [(kk o ho (.inr hc)).2];exact⟨(kk o ho (.inr hc)).1,hc⟩) hn⟩
theorem CStX.store (C:CStX h s col D spm dm lm fs fd fl) {A':List AtV} (k:∀o,o < h.next→col o≠.other→col o≠.store→h'.get o=h.get o∧col' o=col o)
 (S:StA (tailC D spm dm lm) h' s (fun o=>col' o=.store) A') (hn:h.next≤h'.next) (hl:∀o,col' o≠.other→o < h'.next):CStX h' s col' { D with A:=A' } spm dm lm fs fd fl:=by
 have kt:∀tg:Tg,tg≠.other→tg≠.store→∀o,o < h.next→col o=tg→h'.get o=h.get o∧col' o=tg:=fun tg h1 h2 o ho hc=>by
  have:=k o ho (by rw [hc];exact h1) (by rw [hc];exact h2)
  exact⟨this.1,this.2.trans hc⟩
 refine⟨S,C.mS.keep (kt _ (by simp) (by simp)) hn,C.mD.keep (kt _ (by simp) (by simp)) hn,C.mL.keep (kt _ (by simp) (by simp)) hn,C.nn,C.ns,C.nd,C.nl,fun q l hq=>(C.sp q l hq).keep (kt _ (by simp) (by simp)) hn,fun q l hq=>(C.de q l hq).keep (fun o ho hc=>?_) hn,fun q l hq=>(C.li q l hq).keep (fun o ho hc=>?_) hn,hl⟩
 · rcases hc with hc | hc <;> exact k o ho (by rw [hc];simp) (by rw [hc];simp)
 · rcases hc with hc | hc <;> exact k o ho (by rw [hc];simp) (by rw [hc];simp)
theorem recol {O':Nat→Prop} (P:Stp h (fun o=>col o=.store) h' O') (hO:∀o,O' o→o < h'.next) (hl:∀o,col o≠.other→o < h.next):∃col':Nat→Tg,(O'=fun o=>col' o=.store)∧(∀o,o < h.next→col o≠.store→col' o=col o)∧(∀o,col' o≠.other→col o≠.other∨h.next≤o)∧∀o,col' o≠.other→o < h'.next:=by
 classical
 refine⟨fun o=>if O' o then .store else if col o=.store then .other else col o,funext fun o=>propext ?_,fun o ho hc=>?_,fun o ho=>?_,fun o ho=>?_⟩
 · by_cases c:O' o
   · simp [c]
   · by_cases c2:col o=.store <;> simp [c,c2]
 · have:¬O' o:=fun c=>(P.own o c).elim hc (by omega)
   simp [this,hc]
 · by_cases c:O' o
   · rcases P.own o c with h1 | h1
     · exact .inl (by rw [h1];simp)
     · exact .inr h1
   · by_cases c2:col o=.store
     · exact .inl (by rw [c2];simp)
     · simp [c,c2]at ho;exact .inl ho
 · by_cases c:O' o
   · exact hO o c
   · by_cases c2:col o=.store
     · simp [c,c2]at ho
     · simp [c,c2]at ho
       have:=hl o ho
       exact Nat.lt_of_lt_of_le this P.nx
theorem CStX.ofStore (C:CStX h s col D spm dm lm fs fd fl) {A':List AtV} {O':Nat→Prop} (S:StA (tailC D spm dm lm) h' s O' A') (P:Stp h (fun o=>col o=.store) h' O'):
 ∃col',CStX h' s col' { D with A:=A' } spm dm lm fs fd fl∧Stp h (fun o=>col o≠.other) h' (fun o=>col' o≠.other):=by
 obtain⟨col',e,h1,h2,h3⟩:=recol P S.lt C.lt
 subst e
 refine⟨col',C.store (fun o ho hc hs=>⟨P.keep o ho hs,h1 o ho hs⟩) S P.nx h3,P.nx,fun o ho hc=>P.keep o ho (fun e=>?_),h2⟩
 simp only [ne_eq,Classical.not_not]at hc
 rw [hc]at e;cases e
theorem CStX.row (C:CStX h s col D spm dm lm fs fd fl):col s=.store∧∃p sd m,h.get s=some (.row 0 false [p,.int .u64 sd,m,spm,.int .i64 (D.nsp:Nat),dm,lm,.int .u64 (D.clock:Nat),.int .i64 (D.elems:Nat)]):=by
 obtain⟨h1,p,sd,m,h2,_⟩:=C.st.row
 exact⟨h1,p,sd,m,h2⟩
theorem CStX.keep (C:CStX h s col D spm dm lm fs fd fl) (k:∀o,col o≠.other→h'.get o=h.get o) (hn:h.next≤h'.next):CStX h' s col D spm dm lm fs fd fl:=
 C.store (A':=D.A) (fun o _ hc _=>⟨k o hc,rfl⟩) (C.st.keepO (fun o ho=>k o (by rw [ho];simp)) hn) hn (fun o ho=>Nat.lt_of_lt_of_le (C.lt o ho) hn)
theorem CSt.keep {O:Nat→Prop} (C:CSt h s O D) (k:∀o,O o→h'.get o=h.get o) (hn:h.next≤h'.next):CSt h' s O D:=by
 obtain⟨col,spm,dm,lm,fs,fd,fl,rfl,C⟩:=C
 exact⟨col,spm,dm,lm,fs,fd,fl,rfl,C.keep k hn⟩
theorem CSt.lt {O:Nat→Prop} (C:CSt h s O D):∀o,O o→o < h.next:=by
 obtain⟨col,spm,dm,lm,fs,fd,fl,rfl,C⟩:=C
 exact C.lt
theorem CSt.old {O:Nat→Prop} (C:CSt h s O D) (o:Old h h'):CSt h' s O D:=C.keep (fun q hq=>o.2 q (C.lt q hq)) o.1
theorem CSt.new (h:AHeap):CSt (h.push (.row 0 false [.nilp,.int .u64 0,.nilm,.nilm,.int .i64 0,.nilm,.nilm,.int .u64 0,.int .i64 0])) h.next (fun o=>o=h.next) CV.nil:=by
 classical
 have S:=StA.new (zT:=tailC CV.nil .nilm .nilm .nilm) h
 refine⟨fun o=>if o=h.next then .store else .other,.nilm,.nilm,.nilm,fun _=>.nils,fun _=>.nilp,fun _=>.nilp,funext fun o=>propext (by by_cases c:o=h.next <;> simp [c]),⟨?_,.inl ⟨rfl,rfl⟩,.inl ⟨rfl,rfl⟩,.inl ⟨rfl,rfl⟩,Iff.rfl,List.nodup_nil,List.nodup_nil,List.nodup_nil,fun k l e=>(by cases e),fun k l e=>(by cases e),fun k l e=>(by cases e),fun o ho=>?_⟩⟩
 · have e:(fun o=>(if o=h.next then Tg.store else Tg.other)=Tg.store)=fun o=>o=h.next:=funext fun o=>propext (by by_cases c:o=h.next <;> simp [c])
   rw [e]
   exact S
 · by_cases c:o=h.next
   · rw [c];simp
   · simp [c]at ho
end
end Go.Proofs.YtlhlbamcgopiiaaGreatDoor
set_option linter.all false
set_option maxRecDepth 100000
set_option maxHeartbeats 4000000
namespace Go.Proofs.YtlhlbamcgopiiaaGreatDoor
open Go Go.RowKit Go.Proofs
structure Upd (h H:AHeap) (col col':Nat→Tg) (X:Tg→Prop):Prop where
 n:h.next≤H.next
 g:∀o,o < h.next→¬X (col o)→H.get o=h.get o
 c:∀o,o < h.next→col' o=col o
 x:∀o,h.next≤o→col' o≠.store∧(col' o≠.other→o < H.next)
 o:¬X .other
section
variable {h H:AHeap} {s:Nat} {col col':Nat→Tg} {D:CV} {spm dm lm:AVal} {fs fd fl:IdT→AVal} {X:Tg→Prop}
theorem Upd.kt (U:Upd h H col col' X) {tg:Tg} (hx:¬X tg):∀o,o < h.next→col o=tg→H.get o=h.get o∧col' o=tg:=fun o ho hc=>⟨U.g o ho (by rw [hc];exact hx),by rw [U.c o ho,hc]⟩
theorem Upd.map (U:Upd h H col col' X) {tg:Tg} (hx:¬X tg) {m:AVal} {ks:List (IdT×AVal)} (M:MapOk h col tg m ks):MapOk H col' tg m ks:=M.keep (U.kt hx) U.n
theorem Upd.own (U:Upd h H col col' X) {tg:Tg} (hx:¬X tg) {sz:Nat} {es:List (List AVal)} {v:AVal} (M:OwnS h col tg sz es v):OwnS H col' tg sz es v:=M.keep (U.kt hx) U.n
theorem Upd.deed (U:Upd h H col col' X) {k:IdT} (h1:¬X (.deed k)) (h2:¬X (.touch k)) {d:Dl} {v:AVal} (M:DeedOk h col k d v):DeedOk H col' k d v:=
 M.keep (fun o ho hc=>by rcases hc with hc | hc <;> exact⟨U.g o ho (by rw [hc];assumption),U.c o ho⟩) U.n
theorem Upd.life (U:Upd h H col col' X) {k:IdT} (h1:¬X (.life k)) (h2:¬X (.gone k)) {d:Lf} {v:AVal} (M:LifeOk h col k d v):LifeOk H col' k d v:=
 M.keep (fun o ho hc=>by rcases hc with hc | hc <;> exact⟨U.g o ho (by rw [hc];assumption),U.c o ho⟩) U.n
theorem Upd.fst (U:Upd h H col col' X) (hl:∀o,col o≠.other→o < h.next):(fun o=>col o=.store)=fun o=>col' o=.store:=by
 funext o
 refine propext ⟨fun e=>?_,fun e=>?_⟩
 · rw [U.c o (hl o (by rw [e];simp))];exact e
 · by_cases c:o < h.next
   · rw [←U.c o c];exact e
   · exact((U.x o (by omega)).1 e).elim
theorem Upd.st (U:Upd h H col col' X) (C:CStX h s col D spm dm lm fs fd fl) (hx:¬X .store):StA (tailC D spm dm lm) H s (fun o=>col' o=.store) D.A:=by
 rw [←U.fst C.lt]
 exact C.st.keepO (fun o ho=>U.g o (C.lt o (by rw [ho];simp)) (by rw [ho];exact hx)) U.n
theorem Upd.lt (U:Upd h H col col' X) (hl:∀o,col o≠.other→o < h.next):∀o,col' o≠.other→o < H.next:=fun o ho=>by
 by_cases c:o < h.next
 · exact Nat.lt_of_lt_of_le c U.n
 · exact(U.x o (by omega)).2 ho
theorem Upd.stp (U:Upd h H col col' X):Stp h (fun o=>col o≠.other) H (fun o=>col' o≠.other):=
 ⟨U.n,fun o ho hc=>U.g o ho (by simp only [ne_eq,Classical.not_not]at hc;rw [hc];exact U.o),fun o ho=>by
  by_cases c:o < h.next
  · exact .inl (by rw [←U.c o c];exact ho)
  · exact .inr (by omega)⟩
theorem CStX.setrow (C:CStX h s col D spm dm lm fs fd fl):∃p sd m,h.get s=some (.row 0 false [p,.int .u64 sd,m,spm,.int .i64 (D.nsp:Nat),dm,lm,.int .u64 (D.clock:Nat),.int .i64 (D.elems:Nat)])∧
 ∀{H:AHeap} {zU:List AVal},H.get s=some (.row 0 false (p :: .int .u64 sd :: m :: zU))→(∀o,o < h.next→o≠s→H.get o=h.get o)→h.next≤H.next→
  StA zU H s (fun o=>col o=.store) D.A∧Upd h H col col (· =.store):=by
 obtain⟨h1,p,sd,m,h2,h3⟩:=C.st.row
 refine⟨p,sd,m,h2,fun {H zU} e k hn=>⟨h3 e (fun o ho hs=>k o (C.lt o (by rw [ho];simp)) hs) hn,hn,fun o ho hx=>k o ho (fun e=>hx (by rw [e];exact h1)),fun _ _=>rfl,fun o ho=>?_,by simp⟩⟩
 have:col o=.other:=Classical.byContradiction fun e=>by have:=C.lt o e;omega
 rw [this];exact⟨by simp,fun e=>(e rfl).elim⟩
theorem CStX.new {o:Nat} (C:CStX h s col D spm dm lm fs fd fl) (ho:h.next≤o):col o=.other:=Classical.byContradiction fun e=>by have:=C.lt o e;omega
theorem CStX.color (C:CStX h s col D spm dm lm fs fd fl) {Y:Nat→Prop} {tg:Tg} (ht:tg≠.store) (hX:¬X .other) (hY:∀o,Y o→o < H.next) (hn:h.next≤H.next) (hg:∀o,o < h.next→¬X (col o)→H.get o=h.get o):
 ∃col',Upd h H col col' X∧∀o,Y o→h.next≤o→col' o=tg:=by
 classical
 refine⟨fun o=>if Y o∧h.next≤o then tg else col o,⟨hn,hg,fun o ho=>by rw [if_neg (by omega)],fun o ho=>?_,hX⟩,fun o h1 h2=>by show(if Y o∧h.next≤o then tg else col o)=tg;rw [if_pos ⟨h1,h2⟩]⟩
 by_cases c:Y o
 · rw [if_pos ⟨c,ho⟩];exact⟨ht,fun _=>hY o c⟩
 · rw [if_neg (fun e=>c e.1),C.new ho];exact⟨by simp,fun e=>(e rfl).elim⟩
theorem CStX.dmq {q:Nat} (C:CStX h s col D spm (.map q) lm fs fd fl):q < h.next∧col q=.dmap∧h.get q=some (.map (entI (D.deeds.map fun p=>(p.1,fd p.1)))):=by
 rcases C.mD with ⟨e,_⟩ | ⟨q',e,h1,h2,h3⟩
 · cases e
 · cases e;exact⟨h1,h2,h3⟩
theorem CStX.lmq {q:Nat} (C:CStX h s col D spm dm (.map q) fs fd fl):q < h.next∧col q=.lmap∧h.get q=some (.map (entI (D.lives.map fun p=>(p.1,fl p.1)))):=by
 rcases C.mL with ⟨e,_⟩ | ⟨q',e,h1,h2,h3⟩
 · cases e
 · cases e;exact⟨h1,h2,h3⟩
theorem CStX.smq {q:Nat} (C:CStX h s col D (.map q) dm lm fs fd fl):q < h.next∧col q=.smap∧h.get q=some (.map (entI (D.sp.map fun p=>(p.1,fs p.1)))):=by
 rcases C.mS with ⟨e,_⟩ | ⟨q',e,h1,h2,h3⟩
 · cases e
 · cases e;exact⟨h1,h2,h3⟩
theorem CStX.addDeed {q p:Nat} (C:CStX h s col D spm (.map q) lm fs fd fl) {k:IdT} {u:Bool} (hk:lookI D.deeds k=none) (hp:h.next≤p) (hpn:p < H.next)
 (h1:H.get p=some (.row 0 false [.int .i64 0,.nils,.bool u])) (h2:H.get q=some (.map (entI (putI (D.deeds.map fun x=>(x.1,fd x.1)) k (.ptr p 0))))) (h3:∀o,o < h.next→o≠q→H.get o=h.get o) (hn:h.next≤H.next):
 ∃col',CStX H s col' { D with deeds:=putI D.deeds k ⟨0,[],u⟩ } spm (.map q) lm fs (fun j=>if j=k then .ptr p 0 else fd j) fl∧Stp h (fun o=>col o≠.other) H (fun o=>col' o≠.other):=by
 obtain⟨q1,q2,q3⟩:=C.dmq
 obtain⟨col',U,hc⟩:=C.color (H:=H) (X:=(· =.dmap)) (Y:=(· =p)) (tg:=.deed k) (by simp) (by simp) (fun o e=>by rw [e];exact hpn) hn (fun o ho hx=>h3 o ho (fun e=>hx (by rw [e];exact q2)))
 refine⟨col',⟨U.st (D:=D) C (by simp),U.map (by simp) C.mS,.inr ⟨q,rfl,Nat.lt_of_lt_of_le q1 hn,by rw [U.c q q1];exact q2,?_⟩,U.map (by simp) C.mL,C.nn,C.ns,put_nodup _ _ C.nd,C.nl,fun j l hj=>U.own (by simp) (C.sp j l hj),fun j d hj=>?_,fun j l hj=>U.life (by simp) (by simp) (C.li j l hj),U.lt C.lt⟩,U.stp⟩
 · rw [h2]
   have:=put_put (β:=AVal) (fun j=>fd j) k (⟨0,[],u⟩:Dl) (.ptr p 0) D.deeds C.nd
   rw [←this]
 · show DeedOk H col' j d (if j=k then .ptr p 0 else fd j)
   rw [show lookI (putI D.deeds k ⟨0,[],u⟩) j=_ from look_put _ _ _ _]at hj
   by_cases e:j=k
   · rw [if_pos e]at hj ⊢
     cases hj
     exact⟨p,.nils,rfl,hpn,by rw [e];exact hc p rfl hp,h1,⟨Mine.nil _ _ _,fun o ho=>ho.elim⟩⟩
   · rw [if_neg e]at hj ⊢
     exact U.deed (by simp) (by simp) (C.de j d hj)
theorem CStX.addLife {q p:Nat} (C:CStX h s col D spm dm (.map q) fs fd fl) {k m:IdT} (hk:lookI D.lives k=none) (hp:h.next≤p) (hpn:p < H.next)
 (h1:H.get p=some (.row 0 false [.int .u16 m.1,.int .u32 m.2,.nils])) (h2:H.get q=some (.map (entI (putI (D.lives.map fun x=>(x.1,fl x.1)) k (.ptr p 0))))) (h3:∀o,o < h.next→o≠q→H.get o=h.get o) (hn:h.next≤H.next):
 ∃col',CStX H s col' { D with lives:=putI D.lives k ⟨m,[]⟩ } spm dm (.map q) fs fd (fun j=>if j=k then .ptr p 0 else fl j)∧Stp h (fun o=>col o≠.other) H (fun o=>col' o≠.other):=by
 obtain⟨q1,q2,q3⟩:=C.lmq
 obtain⟨col',U,hc⟩:=C.color (H:=H) (X:=(· =.lmap)) (Y:=(· =p)) (tg:=.life k) (by simp) (by simp) (fun o e=>by rw [e];exact hpn) hn (fun o ho hx=>h3 o ho (fun e=>hx (by rw [e];exact q2)))
 refine⟨col',⟨U.st (D:=D) C (by simp),U.map (by simp) C.mS,U.map (by simp) C.mD,.inr ⟨q,rfl,Nat.lt_of_lt_of_le q1 hn,by rw [U.c q q1];exact q2,?_⟩,C.nn,C.ns,C.nd,put_nodup _ _ C.nl,fun j l hj=>U.own (by simp) (C.sp j l hj),fun j d hj=>U.deed (by simp) (by simp) (C.de j d hj),fun j d hj=>?_,U.lt C.lt⟩,U.stp⟩
 · rw [h2]
   have:=put_put (β:=AVal) (fun j=>fl j) k (⟨m,[]⟩:Lf) (.ptr p 0) D.lives C.nl
   rw [←this]
 · show LifeOk H col' j d (if j=k then .ptr p 0 else fl j)
   rw [show lookI (putI D.lives k ⟨m,[]⟩) j=_ from look_put _ _ _ _]at hj
   by_cases e:j=k
   · rw [if_pos e]at hj ⊢
     cases hj
     exact⟨p,.nils,rfl,hpn,by rw [e];exact hc p rfl hp,h1,⟨Mine.nil _ _ _,fun o ho=>ho.elim⟩⟩
   · rw [if_neg e]at hj ⊢
     exact U.life (by simp) (by simp) (C.li j d hj)
theorem OwnS.app {tg:Tg} {sz b:Nat} {es:List (List AVal)} {v:AVal} {e:List AVal} (M:OwnS h col tg sz es v) (hsz:0 < sz) (he:e.length=sz) (hb:(es.length+1) * b≤2 ^ 47):
 ∃v' h2,appCore sz b (h.push (.row sz false e)) v 1 e=.ok (v',h2)∧Mine hZ h2 sz (es++[e]) v'∧h.next≤h2.next∧(∀o,o < h.next→col o≠tg→h2.get o=h.get o)∧(∀o,vobj v' o→(vobj v o∨h.next≤o)∧o < h2.next)∧∃q,v'=.sl q 0 (es.length+1):=by
 have op:Old h (h.push (.row sz false e)):=(Old.refl h).push _
 obtain⟨v',h2,k1,k2,k3,_⟩:=(M.m.keep op).append1G (bytes:=b) (e:=e) hsz he hb (Nat.zero_le _)
 obtain⟨f1,f2,f3⟩:=app_frame k1 (M.m.keep op).notSlc
 have hn:(h.push (.row sz false e)).next=h.next+1:=rfl
 refine⟨v',h2,k1,k2,by omega,fun o ho hc=>?_,fun o ho=>⟨?_,(k2.obj o ho).2⟩,?_⟩
 · rw [f2 o (by omega) (fun hv=>hc (M.c o hv)),op.2 o ho]
 · rcases f3 o ho with h1 | h1
   · exact .inl h1
   · exact .inr (by omega)
 · rcases k2.2 with ⟨e,_⟩ | ⟨q,_,e,_⟩
   · simp at e
   · exact⟨q,by rw [e,List.length_append];rfl⟩
theorem CStX.touch (C:CStX h s col D spm dm lm fs fd fl) {k e:IdT} {d:Dl} (hd:lookI D.deeds k=some d) (b:Nat) (hb:(d.touched.length+1) * b≤2 ^ 47):
 ∃p t q h2 t',t'=.sl q 0 (d.touched.length+1)∧fd k=.ptr p 0∧h.get p=some (.row 0 false [.int .i64 d.undone,t,.bool d.undoes])∧appCore 2 b (h.push (.row 2 false (idc e))) t 1 (idc e)=.ok (t',h2)∧h2.get p=h.get p∧
 ∃col',CStX (h2.set p (.row 0 false [.int .i64 d.undone,t',.bool d.undoes])) s col' { D with deeds:=putI D.deeds k { d with touched:=d.touched++[e] } } spm dm lm fs fd fl∧Stp h (fun o=>col o≠.other) (h2.set p (.row 0 false [.int .i64 d.undone,t',.bool d.undoes])) (fun o=>col' o≠.other):=by
 obtain⟨p,t,e1,e2,e3,e4,e5⟩:=C.de k d hd
 obtain⟨t',h2,a1,a2,a3,a4,a5,qq,a6⟩:=e5.app (b:=b) (e:=idc e) (by decide) rfl (by rw [List.length_map];exact hb)
 have hp2:h2.get p=h.get p:=a4 p e2 (by rw [e3];simp)
 obtain⟨H,hH⟩:∃H,H=h2.set p (.row 0 false [.int .i64 d.undone,t',.bool d.undoes]):=⟨_,rfl⟩
 have hHn:H.next=h2.next:=by rw [hH];rfl
 refine⟨p,t,qq,h2,t',by rw [a6,List.length_map],e1,e4,a1,hp2,?_⟩
 rw [←hH]
 have hne:∀o,o≠p→H.get o=h2.get o:=fun o ho=>by rw [hH,get_set_ne (Ne.symm ho)]
 obtain⟨col',U,hc⟩:=C.color (H:=H) (X:=fun x=>x=.deed k∨x=.touch k) (Y:=vobj t') (tg:=.touch k) (by simp) (by simp) (fun o ho=>by rw [hHn];exact(a5 o ho).2) (by omega) (fun o ho hx=>by
  rw [hne o (fun e=>hx (.inl (by rw [e];exact e3))),a4 o ho (fun e=>hx (.inr e))])
 have hpt:¬vobj t' p:=fun hv=>by
  rcases(a5 p hv).1 with h1 | h1
  · have:=e5.c p h1;rw [e3]at this;cases this
  · omega
 have hsame:=put_same (β:=AVal) (fun j=>fd j) k ({ d with touched:=d.touched++[e] }:Dl) (l:=D.deeds) (by rw [hd];simp)
 refine⟨col',⟨U.st (D:=D) C (by simp),U.map (by simp) C.mS,?_,U.map (by simp) C.mL,C.nn,C.ns,put_nodup _ _ C.nd,C.nl,fun j l hj=>U.own (by simp) (C.sp j l hj),fun j d' hj=>?_,fun j l hj=>U.life (by simp) (by simp) (C.li j l hj),U.lt C.lt⟩,U.stp⟩
 · rw [show(putI D.deeds k { d with touched:=d.touched++[e] }).map (fun p=>(p.1,fd p.1))=_ from hsame]
   exact U.map (by simp) C.mD
 · rw [show lookI (putI D.deeds k _) j=_ from look_put _ _ _ _]at hj
   by_cases ej:j=k
   · rw [if_pos ej]at hj
     cases hj
     rw [ej]
     refine⟨p,t',e1,by omega,by rw [U.c p e2];exact e3,by rw [hH,get_set_self],⟨?_,fun o ho=>?_⟩⟩
     · rw [List.map_append]
       exact a2.keepO (fun o ho=>hne o (fun e=>hpt (by rw [←e];exact ho))) (by omega)
     · rcases(a5 o ho).1 with h1 | h1
       · rw [U.c o (e5.m.obj o h1).2];exact e5.c o h1
       · exact hc o ho h1
   · rw [if_neg ej]at hj
     exact U.deed (by simp [ej]) (by simp [ej]) (C.de j d' hj)
theorem CStX.let_ (C:CStX h s col D spm dm lm fs fd fl) {k e:IdT} {d:Lf} (hd:lookI D.lives k=some d) (b:Nat) (hb:(d.gone.length+1) * b≤2 ^ 47):
 ∃p t q h2 t',t'=.sl q 0 (d.gone.length+1)∧fl k=.ptr p 0∧h.get p=some (.row 0 false [.int .u16 d.made.1,.int .u32 d.made.2,t])∧appCore 2 b (h.push (.row 2 false (idc e))) t 1 (idc e)=.ok (t',h2)∧h2.get p=h.get p∧
 ∃col',CStX (h2.set p (.row 0 false [.int .u16 d.made.1,.int .u32 d.made.2,t'])) s col' { D with lives:=putI D.lives k { d with gone:=d.gone++[e] } } spm dm lm fs fd fl∧Stp h (fun o=>col o≠.other) (h2.set p (.row 0 false [.int .u16 d.made.1,.int .u32 d.made.2,t'])) (fun o=>col' o≠.other):=by
 obtain⟨p,t,e1,e2,e3,e4,e5⟩:=C.li k d hd
 obtain⟨t',h2,a1,a2,a3,a4,a5,qq,a6⟩:=e5.app (b:=b) (e:=idc e) (by decide) rfl (by rw [List.length_map];exact hb)
 have hp2:h2.get p=h.get p:=a4 p e2 (by rw [e3];simp)
 obtain⟨H,hH⟩:∃H,H=h2.set p (.row 0 false [.int .u16 d.made.1,.int .u32 d.made.2,t']):=⟨_,rfl⟩
 have hHn:H.next=h2.next:=by rw [hH];rfl
 refine⟨p,t,qq,h2,t',by rw [a6,List.length_map],e1,e4,a1,hp2,?_⟩
 rw [←hH]
 have hne:∀o,o≠p→H.get o=h2.get o:=fun o ho=>by rw [hH,get_set_ne (Ne.symm ho)]
 obtain⟨col',U,hc⟩:=C.color (H:=H) (X:=fun x=>x=.life k∨x=.gone k) (Y:=vobj t') (tg:=.gone k) (by simp) (by simp) (fun o ho=>by rw [hHn];exact(a5 o ho).2) (by omega) (fun o ho hx=>by
  rw [hne o (fun e=>hx (.inl (by rw [e];exact e3))),a4 o ho (fun e=>hx (.inr e))])
 have hpt:¬vobj t' p:=fun hv=>by
  rcases(a5 p hv).1 with h1 | h1
  · have:=e5.c p h1;rw [e3]at this;cases this
  · omega
 have hsame:=put_same (β:=AVal) (fun j=>fl j) k ({ d with gone:=d.gone++[e] }:Lf) (l:=D.lives) (by rw [hd];simp)
 refine⟨col',⟨U.st (D:=D) C (by simp),U.map (by simp) C.mS,U.map (by simp) C.mD,?_,C.nn,C.ns,C.nd,put_nodup _ _ C.nl,fun j l hj=>U.own (by simp) (C.sp j l hj),fun j l hj=>U.deed (by simp) (by simp) (C.de j l hj),fun j d' hj=>?_,U.lt C.lt⟩,U.stp⟩
 · rw [show(putI D.lives k { d with gone:=d.gone++[e] }).map (fun p=>(p.1,fl p.1))=_ from hsame]
   exact U.map (by simp) C.mL
 · rw [show lookI (putI D.lives k _) j=_ from look_put _ _ _ _]at hj
   by_cases ej:j=k
   · rw [if_pos ej]at hj
     cases hj
     rw [ej]
     refine⟨p,t',e1,by omega,by rw [U.c p e2];exact e3,by rw [hH,get_set_self],⟨?_,fun o ho=>?_⟩⟩
     · rw [List.map_append]
       exact a2.keepO (fun o ho=>hne o (fun e=>hpt (by rw [←e];exact ho))) (by omega)
     · rcases(a5 o ho).1 with h1 | h1
       · rw [U.c o (e5.m.obj o h1).2];exact e5.c o h1
       · exact hc o ho h1
   · rw [if_neg ej]at hj
     exact U.life (by simp [ej]) (by simp [ej]) (C.li j d' hj)
end
end Go.Proofs.YtlhlbamcgopiiaaGreatDoor
set_option linter.all false
set_option maxRecDepth 100000
set_option maxHeartbeats 4000000
namespace Go.Proofs.YtlhlbamcgopiiaaGreatDoor
open Go Go.RowKit Go.Proofs
section
variable {h H:AHeap} {s:Nat} {col col':Nat→Tg} {D:CV} {spm dm lm:AVal} {fs fd fl:IdT→AVal} {X:Tg→Prop}
theorem CStX.num (C:CStX h s col D spm dm lm fs fd fl) (n c e:Nat):∃p sd m,h.get s=some (.row 0 false [p,.int .u64 sd,m,spm,.int .i64 (D.nsp:Nat),dm,lm,.int .u64 (D.clock:Nat),.int .i64 (D.elems:Nat)])∧
 CStX (h.set s (.row 0 false [p,.int .u64 sd,m,spm,.int .i64 (n:Nat),dm,lm,.int .u64 (c:Nat),.int .i64 (e:Nat)])) s col { D with nsp:=n,clock:=c,elems:=e } spm dm lm fs fd fl∧
 Stp h (fun o=>col o≠.other) (h.set s (.row 0 false [p,.int .u64 sd,m,spm,.int .i64 (n:Nat),dm,lm,.int .u64 (c:Nat),.int .i64 (e:Nat)])) (fun o=>col o≠.other):=by
 obtain⟨p,sd,m,h1,h2⟩:=C.setrow
 obtain⟨S,U⟩:=h2 (H:=h.set s (.row 0 false [p,.int .u64 sd,m,spm,.int .i64 (n:Nat),dm,lm,.int .u64 (c:Nat),.int .i64 (e:Nat)])) (zU:=[spm,.int .i64 (n:Nat),dm,lm,.int .u64 (c:Nat),.int .i64 (e:Nat)]) (get_set_self _ _ _) (fun o _ ho=>get_set_ne (Ne.symm ho)) (Nat.le_refl _)
 exact⟨p,sd,m,h1,⟨S,U.map (by simp) C.mS,U.map (by simp) C.mD,U.map (by simp) C.mL,C.nn,C.ns,C.nd,C.nl,fun j l hj=>U.own (by simp) (C.sp j l hj),fun j l hj=>U.deed (by simp) (by simp) (C.de j l hj),fun j l hj=>U.life (by simp) (by simp) (C.li j l hj),U.lt C.lt⟩,U.stp⟩
theorem nil_lives (C:CStX h s col D spm dm .nilm fs fd fl):D.lives=[]:=by
 rcases C.mL with ⟨_,e⟩ | ⟨q,e,_⟩
 · simpa using e
 · cases e
theorem nil_deeds (C:CStX h s col D spm .nilm lm fs fd fl):D.deeds=[]:=by
 rcases C.mD with ⟨_,e⟩ | ⟨q,e,_⟩
 · simpa using e
 · cases e
theorem nil_sp (C:CStX h s col D .nilm dm lm fs fd fl):D.sp=[]:=by
 rcases C.mS with ⟨_,e⟩ | ⟨q,e,_⟩
 · simpa using e
 · cases e
theorem CStX.maps (C:CStX h s col D spm .nilm .nilm fs fd fl):∃p sd m,h.get s=some (.row 0 false [p,.int .u64 sd,m,spm,.int .i64 (D.nsp:Nat),.nilm,.nilm,.int .u64 (D.clock:Nat),.int .i64 (D.elems:Nat)])∧
 ∀{H:AHeap},H.get s=some (.row 0 false [p,.int .u64 sd,m,spm,.int .i64 (D.nsp:Nat),.map h.next,.map (h.next+1),.int .u64 (D.clock:Nat),.int .i64 (D.elems:Nat)])→H.get h.next=some (.map [])→H.get (h.next+1)=some (.map [])→
  (∀o,o < h.next→o≠s→H.get o=h.get o)→H.next=h.next+2→∃col',CStX H s col' D spm (.map h.next) (.map (h.next+1)) fs fd fl∧Stp h (fun o=>col o≠.other) H (fun o=>col' o≠.other):=by
 classical
 obtain⟨p,sd,m,h1,h2⟩:=C.setrow
 refine⟨p,sd,m,h1,fun {H} e1 e2 e3 e4 e5=>?_⟩
 obtain⟨S,U0⟩:=h2 (zU:=[spm,.int .i64 (D.nsp:Nat),.map h.next,.map (h.next+1),.int .u64 (D.clock:Nat),.int .i64 (D.elems:Nat)]) e1 e4 (by omega)
 obtain⟨col',hc⟩:∃col':Nat→Tg,∀o,col' o=if o=h.next then .dmap else if o=h.next+1 then .lmap else col o:=⟨_,fun _=>rfl⟩
 have c1:col' h.next=.dmap:=by rw [hc,if_pos rfl]
 have c2:col' (h.next+1)=.lmap:=by rw [hc,if_neg (by omega),if_pos rfl]
 have U:Upd h H col col' (· =.store):=⟨U0.n,U0.g,fun o ho=>by rw [hc,if_neg (by omega),if_neg (by omega)],fun o ho=>by
  rw [hc]
  by_cases a:o=h.next
  · rw [if_pos a];exact⟨by simp,fun _=>by omega⟩
  · rw [if_neg a]
    by_cases b:o=h.next+1
    · rw [if_pos b];exact⟨by simp,fun _=>by omega⟩
    · rw [if_neg b];exact U0.x o ho,U0.o⟩
 rw [U.fst C.lt]at S
 have hd:=nil_deeds C
 have hl:=nil_lives C
 refine⟨col',⟨S,U.map (by simp) C.mS,.inr ⟨_,rfl,by omega,c1,by rw [e2,hd];rfl⟩,.inr ⟨_,rfl,by omega,c2,by rw [e3,hl];rfl⟩,⟨fun e=>(by cases e),fun e=>(by cases e)⟩,C.ns,C.nd,C.nl,fun j l hj=>U.own (by simp) (C.sp j l hj),fun j l hj=>U.deed (by simp) (by simp) (C.de j l hj),fun j l hj=>U.life (by simp) (by simp) (C.li j l hj),U.lt C.lt⟩,U.stp⟩
theorem CStX.smap (C:CStX h s col D .nilm dm lm fs fd fl):∃p sd m,h.get s=some (.row 0 false [p,.int .u64 sd,m,.nilm,.int .i64 (D.nsp:Nat),dm,lm,.int .u64 (D.clock:Nat),.int .i64 (D.elems:Nat)])∧
 ∀{H:AHeap},H.get s=some (.row 0 false [p,.int .u64 sd,m,.map h.next,.int .i64 (D.nsp:Nat),dm,lm,.int .u64 (D.clock:Nat),.int .i64 (D.elems:Nat)])→H.get h.next=some (.map [])→
  (∀o,o < h.next→o≠s→H.get o=h.get o)→H.next=h.next+1→∃col',CStX H s col' D (.map h.next) dm lm fs fd fl∧Stp h (fun o=>col o≠.other) H (fun o=>col' o≠.other):=by
 classical
 obtain⟨p,sd,m,h1,h2⟩:=C.setrow
 refine⟨p,sd,m,h1,fun {H} e1 e2 e4 e5=>?_⟩
 obtain⟨S,U0⟩:=h2 (zU:=[.map h.next,.int .i64 (D.nsp:Nat),dm,lm,.int .u64 (D.clock:Nat),.int .i64 (D.elems:Nat)]) e1 e4 (by omega)
 obtain⟨col',U,c1⟩:=C.color (H:=H) (X:=(· =.store)) (Y:=(· =h.next)) (tg:=.smap) (by simp) (by simp) (fun o ho=>by omega) (by omega) U0.g
 rw [U.fst C.lt]at S
 have hd:=nil_sp C
 refine⟨col',⟨S,.inr ⟨_,rfl,by omega,c1 _ rfl (Nat.le_refl _),by rw [e2,hd];rfl⟩,U.map (by simp) C.mD,U.map (by simp) C.mL,C.nn,C.ns,C.nd,C.nl,fun j l hj=>U.own (by simp) (C.sp j l hj),fun j l hj=>U.deed (by simp) (by simp) (C.de j l hj),fun j l hj=>U.life (by simp) (by simp) (C.li j l hj),U.lt C.lt⟩,U.stp⟩
def spOf (D:CV) (k:IdT):List Sp:=(lookI D.sp k).getD []
def spV (D:CV) (fs:IdT→AVal) (k:IdT):AVal:=(lookI (D.sp.map fun p=>(p.1,fs p.1)) k).getD .nils
theorem CStX.spv (C:CStX h s col D spm dm lm fs fd fl) (k:IdT):OwnS h col (.spots k) 5 ((spOf D k).map spc) (spV D fs k):=by
 unfold spV
 have e:lookI (D.sp.map fun p=>(p.1,fs p.1)) k=(lookI D.sp k).map fun _=>fs k:=look_map_ (fun j _=>fs j) k D.sp
 rw [e]
 unfold spOf
 cases hl:lookI D.sp k with
 | none=>exact⟨Mine.nil _ _ _,fun o ho=>ho.elim⟩
 | some l=>exact C.sp k l hl
theorem CStX.addSpot {q:Nat} (C:CStX h s col D (.map q) dm lm fs fd fl) {k:IdT} {x:Sp} (b:Nat) (hb:((spOf D k).length+1) * b≤2 ^ 47) {v:AVal} (hv:OwnS h col (.spots k) 5 ((spOf D k).map spc) v):
 ∃q2 h2 v',v'=.sl q2 0 ((spOf D k).length+1)∧appCore 5 b (h.push (.row 5 false (spc x))) v 1 (spc x)=.ok (v',h2)∧(∀o,o < h.next→col o≠.spots k→h2.get o=h.get o)∧
 ∃col',CStX (h2.set q (.map (entI (putI (D.sp.map fun p=>(p.1,fs p.1)) k v')))) s col' { D with sp:=putI D.sp k (spOf D k++[x]) } (.map q) dm lm (fun j=>if j=k then v' else fs j) fd fl∧
  Stp h (fun o=>col o≠.other) (h2.set q (.map (entI (putI (D.sp.map fun p=>(p.1,fs p.1)) k v')))) (fun o=>col' o≠.other):=by
 obtain⟨q1,q2,q3⟩:=C.smq
 obtain⟨v',h2,a1,a2,a3,a4,a5,qq,a6⟩:=hv.app (b:=b) (e:=spc x) (by decide) rfl (by rw [List.length_map];exact hb)
 have hq2:h2.get q=h.get q:=a4 q q1 (by rw [q2];simp)
 obtain⟨H,hH⟩:∃H,H=h2.set q (.map (entI (putI (D.sp.map fun p=>(p.1,fs p.1)) k v'))):=⟨_,rfl⟩
 have hHn:H.next=h2.next:=by rw [hH];rfl
 refine⟨qq,h2,v',by rw [a6,List.length_map],a1,a4,?_⟩
 rw [←hH]
 have hne:∀o,o≠q→H.get o=h2.get o:=fun o ho=>by rw [hH,get_set_ne (Ne.symm ho)]
 obtain⟨col',U,hc⟩:=C.color (H:=H) (X:=fun x=>x=.smap∨x=.spots k) (Y:=vobj v') (tg:=.spots k) (by simp) (by simp) (fun o ho=>by rw [hHn];exact(a5 o ho).2) (by omega) (fun o ho hx=>by
  rw [hne o (fun e=>hx (.inl (by rw [e];exact q2))),a4 o ho (fun e=>hx (.inr e))])
 have hpt:¬vobj v' q:=fun hv'=>by
  rcases(a5 q hv').1 with h1 | h1
  · have:=hv.c q h1;rw [q2]at this;cases this
  · omega
 refine⟨col',⟨U.st (D:=D) C (by simp),.inr ⟨q,rfl,by omega,by rw [U.c q q1];exact q2,?_⟩,U.map (by simp) C.mD,U.map (by simp) C.mL,C.nn,put_nodup _ _ C.ns,C.nd,C.nl,fun j l hj=>?_,fun j l hj=>U.deed (by simp) (by simp) (C.de j l hj),fun j l hj=>U.life (by simp) (by simp) (C.li j l hj),U.lt C.lt⟩,U.stp⟩
 · rw [hH,get_set_self]
   have:=put_put (β:=AVal) (fun j=>fs j) k (spOf D k++[x]) v' D.sp C.ns
   rw [←this]
 · show OwnS H col' (.spots j) 5 _ (if j=k then v' else fs j)
   rw [show lookI (putI D.sp k _) j=_ from look_put _ _ _ _]at hj
   by_cases ej:j=k
   · rw [if_pos ej]at hj ⊢
     cases hj
     rw [ej]
     refine⟨?_,fun o ho=>?_⟩
     · rw [List.map_append]
       exact a2.keepO (fun o ho=>hne o (fun e=>hpt (by rw [←e];exact ho))) (by omega)
     · rcases(a5 o ho).1 with h1 | h1
       · rw [U.c o (hv.m.obj o h1).2];exact hv.c o h1
       · exact hc o ho h1
   · rw [if_neg ej]at hj ⊢
     exact U.own (by simp [ej]) (C.sp j l hj)
end
end Go.Proofs.YtlhlbamcgopiiaaGreatDoor
