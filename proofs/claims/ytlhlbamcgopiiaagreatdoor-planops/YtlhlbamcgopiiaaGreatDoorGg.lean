/-
  A part of the proof of PlanOps, over the seat YtlhlbamcgopiiaaGreatDoor: for every input the law returns true, and the input reads as it did.
-/
import Derived.Test.YtlhlbamcgopiiaaGreatDoorGf
import Derived.Test.YtlhlbamcgopiiaaGreatDoorGe
import Derived.Shelf.Strings.Builder1
import Derived.Test.YtlhlbamcgopiiaaGreatDoorChecked
import Derived.Shelf.SlSortCmp.WholeK
import Derived.Lib.Walk
import Derived.Lib.Small
import Derived.Deep.RegionWith
import Derived.StillTailTactics
import Derived.Deep.QuietTactic
import Derived.Sort.Grow
import Derived.Handy
import Derived.RangeFuncNested
import Derived.Shelf.SlIter.Collect
set_option linter.all false
set_option linter.all false
set_option maxRecDepth 100000
set_option maxHeartbeats 4000000
namespace Go.Proofs.YtlhlbamcgopiiaaGreatDoor.Ins
open Go Go.RowKit Go.Proofs Go.Proofs.YtlhlbamcgopiiaaGreatDoor
section
variable {ro:Nat→Option (List AVal)}
@[simp] theorem get_set_self (h:AHeap) (o:Nat) (x:AObj):(h.set o x).get o=some x:=by rw [AHeap.get_set,if_pos rfl]
theorem get_set_ne {h:AHeap} {o q:Nat} {x:AObj} (d:q≠o):(h.set q x).get o=h.get o:=by rw [AHeap.get_set,if_neg d.symm]
theorem slc_of {o off l h m:Nat} (hm:m≠l):slcOf o off 1 l h m=.slc o (off+l) (h - l) (m - l):=by
 unfold slcOf;rw [if_neg hm,Nat.mul_one]
theorem over_at (a b c d:List AVal) (hl:c.length=d.length):overR (a++(c++b)) a.length d=.ok (a++(d++b)):=by
 unfold overR
 rw [if_pos (by simp;omega),List.take_left' rfl,←hl,show a++(c++b)=(a++c)++b by simp,List.drop_left' (by simp)]
 simp
theorem take_at (a b c:List AVal):takeR (a++(c++b)) a.length c.length=.ok c:=by
 unfold takeR
 rw [if_pos (by simp),List.drop_left' rfl,List.take_left' rfl]
theorem run (h:AHeap) (o q n cap i:Nat) (vs D:List AVal) (x:AVal) (fz:Bool) (ho:h.get o=some (.row 1 fz (vs++D))) (hn:vs.length=n) (hD:n+D.length=cap) (hq:h.get q=some (.row 1 false [x])) (hne:q≠o) (hlo:o < h.next) (hlq:q < h.next) (hi:i≤n) (hb:n < 2 ^ 40):
 Ev (cfgR ro) 214 [.slc o 0 n cap,.int .i64 i,.sl q 0 1] h (InsQ h o n cap (insRow vs i x)):=by
 refine Ev.wp rfl rfl Tryz.func214 rfl ?_
 obtain⟨n1,hn1⟩:∃n1,n1=n+1:=⟨_,rfl⟩
 obtain⟨i1,hi1⟩:∃i1,i1=i+1:=⟨_,rfl⟩
 have w1:IntKind.i64.wrap ((n:Int)+1)=(n1:Int):=by rw [w64 (by omega) (by omega)];omega
 have w2:IntKind.i64.wrap ((i:Int)+1)=(i1:Int):=by rw [w64 (by omega) (by omega)];omega
 have b1:boundR (.int .i64 (i:Int)) cap=.ok i:=bd_nat (by omega)
 have b2:boundR (.int .i64 (i:Int)) n=.ok i:=bd_nat hi
 have ne1:o≠q:=Ne.symm hne
 by_cases hin:i=n
 · have d1:decide ((i:Int)=(n:Int))=true:=decide_eq_true (by omega)
   have hrow:insRow vs i x=vs++[x]:=by unfold insRow;rw [hin,←hn];simp
   rw [hrow]
   rw [hin]
   rw [hin]at b1 b2
   simp -implicitDefEqProofs [Tryz.f214,b1,b2,bounds2,sliceSl,d1,hq,ho,appCore]
   have hlim:¬140737488355328 < (n+1) * 8:=by omega
   by_cases hc:n+1≤cap
   · obtain⟨d,D',rfl⟩:∃d D',D=d :: D':=by cases D with | nil=>simp at hD;omega | cons d D'=>exact⟨d,D',rfl⟩
     have hov:overR (vs++d :: D') n [x]=.ok (vs++x :: D'):=by rw [←hn];exact over_at vs D' [d] [x] rfl
     simp -implicitDefEqProofs [hc,hov]
     exact⟨by simp,fun p _ hp=>by rw [AHeap.get_set,if_neg hp],.inl ⟨fz,D',rfl,hc,by rw [AHeap.get_set,if_pos rfl];simp⟩⟩
   · have htk:takeR (vs++D) 0 n=.ok vs:=by rw [←hn];exact take_at [] D vs
     simp -implicitDefEqProofs [hc,hlim,htk]
     exact⟨by simp,fun p hp _=>by rw [AHeap.get_push,if_neg (by omega)],.inr ⟨h.next,false,Nat.le_refl _,rfl,by rw [AHeap.get_push,if_pos rfl]⟩⟩
 · have d1:decide ((i:Int)=(n:Int))=false:=decide_eq_false (by omega)
   by_cases hc:n+1≤cap
   · have d2:decide (cap < n1)=false:=decide_eq_false (by omega)
     have b3:boundR (.int .i64 (n1:Int)) cap=.ok n1:=bd_nat (by omega)
     have b4:boundR (.int .i64 (i1:Int)) n1=.ok i1:=bd_nat (by omega)
     have b5:boundR (.int .i64 (i:Int)) n1=.ok i:=bd_nat (by omega)
     obtain⟨d,D',rfl⟩:∃d D',D=d :: D':=by cases D with | nil=>simp at hD;omega | cons d D'=>exact⟨d,D',rfl⟩
     obtain⟨y,hy⟩:∃y,vs.drop i=y :: vs.drop (i+1):=⟨vs[i]'(by omega),by rw [List.drop_eq_getElem_cons (by omega)]⟩
     obtain⟨k,hk⟩:∃k,k=n - i:=⟨_,rfl⟩
     have hk0:k≠0:=by omega
     have same:∀v,sameRes (.ok v) v=true:=AVal.beq_refl
     have k1:n1 - i1=k:=by omega
     have k2:n1 - i=k+1:=by omega
     have hvs:vs=vs.take i++(y :: vs.drop (i+1)):=by rw [←hy,List.take_append_drop]
     have hti:(vs.take i).length=i:=by rw [List.length_take];omega
     have hdl:(vs.drop i).length=k:=by rw [List.length_drop];omega
     have htk:takeR (vs++d :: D') i k=.ok (vs.drop i):=by
      have:=take_at (vs.take i) (d :: D') (vs.drop i)
      rw [←List.append_assoc,List.take_append_drop,hti,hdl]at this;exact this
     have hov1:overR (vs++d :: D') i1 (vs.drop i)=.ok (vs.take i++([y]++(vs.drop i++D'))):=by
      have:=over_at (vs.take i++[y]) D' (vs.drop (i+1)++[d]) (vs.drop i) (by rw [hy];simp)
      rw [show(vs.take i++[y]).length=i1 by simp;omega,show(vs.take i++[y])++((vs.drop (i+1)++[d])++D')=(vs.take i++(y :: vs.drop (i+1)))++d :: D' by simp,←hvs]at this
      rw [this];simp
     have hov2:overR (vs.take i++([y]++(vs.drop i++D'))) i [x]=.ok (vs.take i++([x]++(vs.drop i++D'))):=by
      have:=over_at (vs.take i) (vs.drop i++D') [y] [x] rfl
      rw [hti]at this;exact this
     obtain⟨R1,hR1⟩:∃R1,R1=vs.take i++([y]++(vs.drop i++D')):=⟨_,rfl⟩
     rw [←hR1]at hov1 hov2
     obtain⟨R2,hR2⟩:∃R2,R2=vs.take i++([x]++(vs.drop i++D')):=⟨_,rfl⟩
     rw [←hR2]at hov2
     obtain⟨mv,hmv⟩:∃mv,mv=vs.drop i:=⟨_,rfl⟩
     rw [←hmv]at hov1 htk
     have s1:∀l,slcOf o 0 1 0 l cap=.slc o 0 l cap:=fun l=>by rw [slc_of (by omega)];simp
     have s2:∀l,slcOf o 0 1 i1 l cap=.slc o i1 (l - i1) (cap - i1):=fun l=>by rw [slc_of (by omega)];simp
     have s3:∀l,slcOf o 0 1 i l cap=.slc o i (l - i) (cap - i):=fun l=>by rw [slc_of (by omega)];simp
     simp -implicitDefEqProofs [Tryz.f214,b1,b2,b3,b4,b5,bounds2,sliceSl,d1,d2,hq,ho,hin,w1,w2,s1,s2,s3,k1,k2]
     refine Ev.prim (h':=h) (v:=.bool false) rfl (by unfold ovlP;simp [hne,hq,ho]) ?_
     simp -implicitDefEqProofs [b1,b2,b3,b4,b5,bounds2,sliceSl,d1,d2,hq,ho,hin,w1,w2,s1,s2,s3,k1,k2,htk,hov1,hov2,get_set_self,get_set_ne ne1,copyR,lenA,readSl,hk0,same]
     rw [hn1]
     refine⟨by simp,fun p _ hp=>by rw [get_set_ne (Ne.symm hp),get_set_ne (Ne.symm hp)],.inl ⟨fz,D',rfl,hc,by rw [get_set_self,hR2];simp [insRow]⟩⟩
   · have d2:decide (cap < n1)=true:=decide_eq_true (by omega)
     have hlim:¬140737488355328 < n1 * 8:=by omega
     have w3:IntKind.i64.wrap ((n1:Int) - i)=((n1 - i:Nat):Int):=by rw [w64 (by omega) (by omega)];omega
     have s1:∀l,slcOf o 0 1 0 l cap=.slc o 0 l cap:=fun l=>by rw [slc_of (by omega)];simp
     have s3:∀l,i≠cap→slcOf o 0 1 i l cap=.slc o i (l - i) (cap - i):=fun l hh=>by rw [slc_of (Ne.symm hh)];simp
     simp -implicitDefEqProofs [Tryz.f214,b1,b2,bounds2,sliceSl,d1,d2,hq,ho,hin,w1,w2,w3,s1]
     obtain⟨Z,hZ⟩:∃Z,Z=reps (n1 - i) [AVal.nilp]:=⟨_,rfl⟩
     have hZl:Z.length=n1 - i:=by rw [hZ];simp [reps]
     have htk0:takeR (vs++D) 0 i=.ok (vs.take i):=by
      unfold takeR
      rw [if_pos (by simp;omega),List.drop_zero,List.take_append_of_le_length (by omega)]
     have hm:appMakeR (cfgR ro) h 270 (some 3) (.slc o 0 i cap) (.int .i64 ((n1 - i:Nat):Int))=.ok (.sl h.next 0 n1,h.push (.row 1 false (vs.take i++Z))):=by
      obtain⟨i0,f1,f2,f3⟩:=inf270
      unfold appMakeR
      have w4:IntKind.i64.wrap ((n1 - i:Nat):Int)=((n1 - i:Nat):Int):=w64 (by omega) (by omega)
      have e1:i+(n1 - i)=n1:=by omega
      have e2:¬n1≤cap:=by omega
      have e3:¬(((n1 - i:Nat):Int) < 0):=by omega
      simp only [cfgP,un3,el270,f1,zc25,f2,f3,bind_ok,w4,Int.toNat_natCast,e1,e2,e3,ho,Nat.mul_one,htk0,hZ]
      simp [hlim]
     rw [hm]
     have gp:(h.push (.row 1 false (vs.take i++Z))).get h.next=some (.row 1 false (vs.take i++Z)):=by rw [AHeap.get_push,if_pos rfl]
     have gq:∀y,(h.push y).get q=h.get q:=fun y=>by rw [AHeap.get_push,if_neg (by omega)]
     have go:∀y,(h.push y).get o=h.get o:=fun y=>by rw [AHeap.get_push,if_neg (by omega)]
     have b4:boundR (.int .i64 (i1:Int)) n1=.ok i1:=bd_nat (by omega)
     have b5:boundR (.int .i64 (i:Int)) n1=.ok i:=bd_nat (by omega)
     have hti:(vs.take i).length=i:=by rw [List.length_take];omega
     have hrl:(vs.take i++Z).length=n1:=by rw [List.length_append,hti,hZl];omega
     have hroom:∀r:List AVal,r.length=n1→∀H:AHeap,H.get h.next=some (.row 1 false r)→roomOf H h.next 0 1=.ok n1:=by
      intro r hr H hH
      unfold roomOf;rw [hH];simp [hr]
     obtain⟨k,hk⟩:∃k,k=n - i:=⟨_,rfl⟩
     have hk0:k≠0:=by omega
     have same:∀v,sameRes (.ok v) v=true:=AVal.beq_refl
     have k1:n1 - i1=k:=by omega
     have k2:n1 - i=k+1:=by omega
     have hmin:min 1 (k+1)=1:=by omega
     have hdl:(vs.drop i).length=k:=by rw [List.length_drop];omega
     have htk:takeR (vs++D) i k=.ok (vs.drop i):=by
      have:=take_at (vs.take i) D (vs.drop i)
      rw [←List.append_assoc,List.take_append_drop,hti,hdl]at this;exact this
     obtain⟨z0,Z',hZ2⟩:∃z0 Z',Z=z0 :: Z':=by cases Z with | nil=>simp at hZl;omega | cons a b=>exact⟨a,b,rfl⟩
     have hov1:overR (vs.take i++Z) i [x]=.ok (vs.take i++x :: Z'):=by
      have:=over_at (vs.take i) Z' [z0] [x] rfl
      rw [hti]at this;rw [hZ2];exact this
     have hov2:overR (vs.take i++x :: Z') i1 (vs.drop i)=.ok (insRow vs i x):=by
      have:=over_at (vs.take i++[x]) [] Z' (vs.drop i) (by rw [hdl];rw [hZ2]at hZl;simp at hZl;omega)
      rw [show(vs.take i++[x]).length=i1 by simp;omega,List.append_nil,List.append_nil,List.append_assoc,List.append_assoc]at this
      exact this
     have g1:=hroom _ hrl _ gp
     have hr1:(vs.take i++x :: Z').length=n1:=by rw [←hrl,hZ2];simp
     have g2:=hroom _ hr1 ((h.push (.row 1 false (vs.take i++Z))).set h.next (.row 1 false (vs.take i++x :: Z'))) (get_set_self _ _ _)
     have g3:∀H:AHeap,∀y,(H.set h.next y).get o=H.get o:=fun H y=>get_set_ne (by omega)
     have s4:=s3 n (by omega)
     obtain⟨mv,hmv⟩:∃mv,mv=vs.drop i:=⟨_,rfl⟩
     rw [←hmv]at hov2 htk
     rw [←hk]at s4
     simp -implicitDefEqProofs [gp,gq,go,hq,ho,b2,b4,b5,w2,g1,g2,g3,s4,k1,k2,hmin,hov1,hov2,htk,hk0,same,bounds2,sliceSl,copyR,lenA,readSl]
     have hr2:(insRow vs i x).length=n1:=by unfold insRow;simp;omega
     have g5:=hroom _ hr2 (((h.push (.row 1 false (vs.take i++Z))).set h.next (.row 1 false (vs.take i++x :: Z'))).set h.next (.row 1 false (insRow vs i x))) (get_set_self _ _ _)
     refine⟨.inr ?_,?_⟩
     · rw [g5];exact AVal.beq_refl _
     rw [hn1]
     refine⟨by simp,fun p hp _=>by rw [get_set_ne (by omega),get_set_ne (by omega),AHeap.get_push,if_neg (by omega)],.inr ⟨h.next,false,Nat.le_refl _,rfl,get_set_self _ _ _⟩⟩
theorem run0 (h:AHeap) (q:Nat) (x:AVal) (hq:h.get q=some (.row 1 false [x])) (hlq:q < h.next):
 Ev (cfgR ro) 214 [.nils,.int .i64 0,.sl q 0 1] h (InsQ h (h.next+8) 0 0 [x]):=by
 refine Ev.wp rfl rfl Tryz.func214 rfl ?_
 simp -implicitDefEqProofs [Tryz.f214,bounds2,sliceSl,hq,appCore,boundR,lenA]
 exact⟨by simp,fun p hp _=>by rw [AHeap.get_push,if_neg (by omega)],.inr ⟨h.next,false,Nat.le_refl _,rfl,by rw [AHeap.get_push,if_pos rfl]⟩⟩
end
end Go.Proofs.YtlhlbamcgopiiaaGreatDoor.Ins
namespace Go.Proofs.YtlhlbamcgopiiaaGreatDoor
open Go Go.RowKit Go.Proofs
theorem insP_sound (F:Fix) (hP:F.c.P=Tryz.prog) (ok:F.Ok):∀args h v h',insP args h=.ok (v,h')→h.next≤h'.next∧
 ∀ι w (av:Array Value),Rel F ι h w→VRels ι F.ρ args av.toList→Fresh ι h.next h'.next→CallTo F.c.P 214 av w (Out F ι h w v h'):=
 ins_ok Ins.sureC F hP ok 214 (fun h o q n cap i vs D x fz=>Ins.run (ro:=F.c.ro) h o q n cap i vs D x fz) (fun h q x=>Ins.run0 (ro:=F.c.ro) h q x)
end Go.Proofs.YtlhlbamcgopiiaaGreatDoor
set_option linter.all false
namespace Go.Proofs
open Go Go.Shelf Go.RowKit
variable {P:Program} {ρ:Ren}
theorem wpList_append_runI (w:World) {ops:Array Oper} {rest:List Oper} {o:Oper} {a:Act} {Q:Exit→Act→World→Prop} (hgd:o.guard=none) (s x:Operand) (t t':TypeId)
 (ho:o.op=.call { callee:=.builtin .append,args:=#[s,x],argTypes:=#[t,t'] }) (v u:Value) (hs:a.eval s=v) (hx:a.eval x=u) {v':Value} {w':World}
 (hr:(Builtin.append_ #[t,t'] o.type #[v,u]).run P w=.ok v' w') (h:wpList P ops Q rest (a.put o.dst v') w'):wpList P ops Q (o :: rest) a w:=
 wpList_plain hgd fun _ hK=>by
  unfold Oper.wp execOp
  simp only [ho,resolve,invoke,builtin,Sem.run_bind,Sem.run_pure,Result.andThen_ok,List.map_toArray,List.map_cons,List.map_nil,hs,hx,hr]
  exact hK _ _ h
set_option maxHeartbeats 2000000 in
set_option maxRecDepth 100000 in
theorem bld_write (L:Lays.n166 P ρ) (X:Builder.Extra P ρ) (b:Nat) (p v:Value) (s:ByteArray) (w:World) (hbk:w.heap[b]?=some (.cells #[p,v] (ρ.t 72) (0,0))) (hp:p=.pointer none∨p=.pointer (some ⟨b,0,none⟩))
 (Post:World→Value→World→Prop)
 (hap:∀w1,(w1=w∨w1=w.setCell ⟨b,0,none⟩ (.pointer (some ⟨b,0,none⟩)))→w1.heap[b]?=some (.cells #[.pointer (some ⟨b,0,none⟩),v] (ρ.t 72) (0,0))→
   ∃v' w2,(Builtin.append_ #[ρ.t 37,ρ.t 9] (ρ.t 37) #[v,.string s]).run P w1=.ok v' w2∧w2.heap[b]?=some (.cells #[.pointer (some ⟨b,0,none⟩),v] (ρ.t 72) (0,0))∧(∃a n c,v'=.slice a n c)∧Post w1 v' w2):
 Calls P (ρ.f 166) #[.pointer (some ⟨b,0,none⟩),.string s] w fun e w'=>e=.returned (.tuple #[.int .i64 s.size,.nilIface])∧∃w1 v' w2,(w1=w∨w1=w.setCell ⟨b,0,none⟩ (.pointer (some ⟨b,0,none⟩)))∧w1.heap[b]?=some (.cells #[.pointer (some ⟨b,0,none⟩),v] (ρ.t 72) (0,0))∧Post w1 v' w2∧w'=w2.setCell ⟨b,1,none⟩ v':=by
 have hcc:Calls P (ρ.f 240) #[.pointer (some ⟨b,0,none⟩)] w fun e w1=>e=.returned (.tuple #[])∧(w1=w∨w1=w.setCell ⟨b,0,none⟩ (.pointer (some ⟨b,0,none⟩)))∧w1.heap[b]?=some (.cells #[.pointer (some ⟨b,0,none⟩),v] (ρ.t 72) (0,0)):=by
  rcases hp with rfl | rfl
  · refine(Any.Builder_copyCheck_fresh { L with } X.toX72 b w (by rw [Lib.cell_of_heap hbk];rfl) (by simp [World.shape?,hbk]) (by simp [World.frozen?,hbk])).mono ?_
    rintro e w' ⟨rfl,rfl⟩
    refine⟨rfl,.inr rfl,?_⟩
    rw [heap_setCell_same w b 0 _ _ _ hbk];rfl
  · refine(Any.Builder_copyCheck_used { L with } X.toX72 b w (by rw [Lib.cell_of_heap hbk];rfl)).mono ?_
    rintro e w' ⟨rfl,rfl⟩
    exact⟨rfl,.inl rfl,hbk⟩
 have mixed:=L.mixed
 have t72:=L.t72;have a72:=L.a72;have z72:=L.z72;have v72:=L.v72;have u72:=run_underlying L.t72
 have t70:=L.t70;have a70:=L.a70;have z70:=L.z70;have v70:=L.v70;have u70:=run_underlying L.t70
 have t37:=L.t37;have a37:=L.a37;have z37:=L.z37;have v37:=L.v37;have u37:=run_underlying L.t37
 have t3:=L.t3;have a3:=L.a3;have z3:=L.z3;have v3:=L.v3;have u3:=run_underlying L.t3
 have t9:=L.t9;have a9:=L.a9;have z9:=L.z9;have v9:=L.v9;have u9:=run_underlying L.t9
 have t4:=L.t4;have a4:=L.a4;have z4:=L.z4;have v4:=L.v4;have u4:=run_underlying L.t4
 have t164:=L.t164;have a164:=L.a164;have z164:=L.z164;have v164:=L.v164;have u164:=run_underlying L.t164
 have t5:=X.t5;have a5:=X.a5;have z5:=X.z5;have v5:=X.v5;have u5:=run_underlying X.t5
 have e240:∀args w,(callFunc (ρ.f 240) args).run P w=.ok (.enter (ρ.f 240) args) w:=enters_of L.f240 (by kernel_rfl) rfl
 go_enter L.f166,Body.n166_ntmps ρ
 go_wp2_with (go_at_fn (ρ.f 240);refine hcc.mono ?_)
 rintro e w1 ⟨rfl,hw1,hb1⟩
 obtain⟨v',w2,hrun,hb2,⟨ao,n',cap,rfl⟩,hpost⟩:=hap w1 hw1 hb1
 have c1:w1.cell? ⟨b,1,none⟩=some v:=by rw [Lib.cell_of_heap hb1];rfl
 have d1:w2.cell? ⟨b,1,none⟩=some v:=by rw [Lib.cell_of_heap hb2];rfl
 have f1:w2.frozen? ⟨b,1,none⟩=false:=Lib.frozen_of_heap hb2 1
 go_wp2_with (at_builtin;refine wpList_append_runI _ rfl _ _ (ρ.t 37) (ρ.t 9) rfl v (.string s) rfl rfl hrun ?_)
 go_ret2
 exact⟨rfl,w1,_,w2,hw1,hb1,hpost,rfl⟩
end Go.Proofs
namespace Go.Proofs.YtlhlbamcgopiiaaGreatDoor
open Go Go.Shelf Go.RowKit Go.Proofs
section
variable {F:Fix} {ι:Inj} {h:AHeap} {w:World}
theorem Rel.moveG (r:Rel F ι h w) (fr:Fresh ι h.next (h.next+1)) {o:Nat} {x y:AObj} {e e':Ent} (ho:h.get o=some x) (he:ι o=some e)
 {w':World} (hk:Keep (fun b=>b=e.blk) w w') (hb:e'.blk=e.blk) (hx:ObjRel ι F.ρ w' e' y):
 Rel F (upd ι h.next e') ((h.del o).push y) w'∧Step ι h w (upd ι h.next e') ((h.del o).push y) w':=by
 have hnone:ι h.next=none:=fr _ (Nat.le_refl _) (Nat.lt_succ_self _)
 have hs:=upd_sub (o:=h.next) e' hnone
 obtain⟨e0,h1,h2,h3⟩:=r.obj o _ ho
 rw [he]at h1;cases h1
 have hkeep:Keep (Own ι h) w w':=hk.mono fun j _ hj=>⟨o,_,e,ho,he,hj.symm⟩
 have hobj:∀p z,((h.del o).push y).get p=some z→(p=h.next∧z=y)∨(p≠h.next∧p≠o∧h.get p=some z):=by
  intro p z hp
  rw [AHeap.get_push,AHeap.get_del]at hp
  split at hp
  · rename_i hpn;left;simp at hp;exact⟨hpn,hp.symm⟩
  · rename_i hpn
    split at hp
    · cases hp
    · rename_i hpo;exact .inr ⟨hpn,hpo,hp⟩
 refine⟨⟨hkeep.below r.below (Nat.le_refl _) r.own_ge,?_,?_,?_⟩,⟨hs,?_,by simp,hkeep,?_⟩⟩
 · intro p z hp
   rcases hobj p z hp with ⟨rfl,rfl⟩ | ⟨hne,hno,hp'⟩
   · exact⟨_,upd_self _ _ _,by rw [hb];exact h2,hx.mono hs rfl⟩
   · obtain⟨f,f1,f2,f3⟩:=r.obj p z hp'
     refine⟨f,by simp [upd,hne,f1],f2,f3.mono hs (hk.block _ f3.lt fun hb'=>hno (r.inj p o _ _ f e hp' ho f1 he hb'))⟩
 · intro p p' z z' f f' a1 a2 a3 a4 a5
   rcases hobj p z a1 with ⟨rfl,rfl⟩ | ⟨hne,hno,a1'⟩ <;> rcases hobj p' z' a2 with ⟨h6,h7⟩ | ⟨hne',hno',a2'⟩
   · exact h6.symm
   · exfalso
     rw [upd_self]at a3;cases a3
     simp [upd,hne']at a4
     exact hno' (r.inj p' o _ _ f' e a2' ho a4 he (by rw [←a5,hb]))
   · exfalso
     subst h6
     rw [upd_self]at a4;cases a4
     simp [upd,hne]at a3
     exact hno (r.inj p o _ _ f e a1' ho a3 he (by rw [a5,hb]))
   · simp [upd,hne]at a3
     simp [upd,hne']at a4
     exact r.inj p p' z z' f f' a1' a2' a3 a4 a5
 · intro p z hp
   rcases hobj p z hp with ⟨rfl,rfl⟩ | ⟨_,_,hp'⟩
   · simp
   · have:=r.lt p z hp';simp;omega
 · intro p
   by_cases hp:p=h.next
   · subst hp;right;right;simp
   · right;left;simp [upd,hp]
 · rintro b ⟨p,z,f,a1,a2,rfl⟩
   left
   rcases hobj p z a1 with ⟨rfl,rfl⟩ | ⟨hne,_,a1'⟩
   · rw [upd_self]at a2;cases a2;exact⟨o,_,e,ho,he,hb.symm⟩
   · exact⟨p,z,f,a1',by simpa [upd,hne] using a2,rfl⟩
theorem Keep.setCell (w:World) (g i:Nat) (v:Value):Keep (fun b=>b=g) w (w.setCell ⟨g,i,none⟩ v):=
 ⟨rfl,rfl,rfl,by simp [World.setCell],fun k _ hk=>heap_setCell_other w _ k v hk⟩
def bytesA (s:List UInt8):List AVal:=s.map fun b=>.int .u8 b.toNat
def bldWrite (T72 T5:Nat):Prim:=fun args h=>
 match args with
 | [.ptr o 0,.str s]=>match h.get o with
  | some (.bld T none)=>if T≠T72∨2 ^ 40 < s.length then .err 420 else
   if s=[]then .ok (.tuple [.int .i64 (s.length:Nat),.nili],(h.set o (.bld T none)).set o (.bld T none))
   else .ok (.tuple [.int .i64 (s.length:Nat),.nili],((h.set o (.bld T none)).push (.buf T5 s)).set o (.bld T (some (h.next,s.length))))
  | some (.bld T (some (q,n)))=>match h.get q with
   | some (.buf T' bs)=>if T≠T72∨T'≠T5∨bs.length≠n∨q=o∨2 ^ 40 < n+s.length then .err 421 else
    .ok (.tuple [.int .i64 (s.length:Nat),.nili],(((h.set o (.bld T (some (q,n)))).del q).push (.buf T5 (bs++s))).set o (.bld T (some (h.next,n+s.length))))
   | _=>.err 422
  | _=>.err 423
 | _=>.err 424
def bldString (T72 T5:Nat):Prim:=fun args h=>
 match args with
 | [.ptr o 0]=>match h.get o with
  | some (.bld T none)=>if T≠T72 then .err 430 else .ok (.str [],h.del o)
  | some (.bld T (some (q,n)))=>match h.get q with
   | some (.buf T' bs)=>if T≠T72∨T'≠T5∨bs.length≠n∨q=o∨n=0∨2 ^ 40 < n then .err 431 else .ok (.str bs,(h.del o).del q)
   | _=>.err 432
  | _=>.err 433
 | _=>.err 434
theorem str_cells (ok:F.Ok) (r:Rel F ι h w) (s:List UInt8):∃arr:Array Value,(∀d,(Builtin.firstCells 1 s.length (.string ⟨s.toArray⟩)).run F.c.P { w with drawn:=d }=.ok arr { w with drawn:=d })∧
 arr.size=s.length∧(∀(j:Nat) (b:UInt8),s[j]?=some b→arr[j]?=some (.int .u8 b.toNat))∧∀v∈arr.toList,oneC v=true:=by
 obtain⟨arr,a1,a2,a3⟩:=readSl_ok ok r (size:=1) (n:=s.length) (len:=s.length) (x:=.str s) (cs:=s.map fun b=>.int .u8 b.toNat) (xv:=.string ⟨s.toArray⟩) (by simp [readSl]) rfl rfl (Nat.le_refl _)
 have hl:arr.size=s.length:=by have:=a2.length;simp at this;omega
 refine⟨arr,a1,hl,fun j b hj=>?_,a3⟩
 obtain⟨v,v1,v2⟩:=a2.get (j:=j) (a:=.int .u8 b.toNat) (by simp [hj])
 simp only [VRel]at v2;subst v2
 simpa using v1
theorem app_new_buf (ok:F.Ok) (r:Rel F ι h w) (fr:Fresh ι h.next (h.next+1)) {T37 T9 T5:Nat} (hu:F.c.P.underlying T37=some (.slice T5)) (h9:notMake F.c.P (some T9)=.ok ()) {i:TypeInfo} (hi:F.c.P.info? T5=some i) (hsz:i.size=1) (hby:i.bytes=1)
 (hz:∀w,(zeroValue T5).run F.c.P w=.ok (.int .u8 0) w) {base:Option Addr} {cap:Nat} {bs s:List UInt8} {oa:Array Value} (ho:∀d,(Builtin.firstCells 1 bs.length (.slice base bs.length cap)).run F.c.P { w with drawn:=d }=.ok oa { w with drawn:=d })
 (ho1:oa.size=bs.length) (ho2:∀(j:Nat) (b:UInt8),bs[j]?=some b→oa[j]?=some (.int .u8 b.toNat)) (ho3:∀v∈oa.toList,oneC v=true) (hle:¬bs.length+s.length≤cap) (hlim:bs.length+s.length≤2 ^ 40):
 ∃cap' e w2,(Builtin.append_ #[T37,T9] T37 #[.slice base bs.length cap,.string ⟨s.toArray⟩]).run F.c.P w=.ok (.slice (some ⟨e.blk,0,none⟩) (bs.length+s.length) cap') w2∧e.K=cap'∧bs.length+s.length≤cap'∧e.blk=w.heap.size∧
  (∀k,k < w.heap.size→w2.heap[k]?=w.heap[k]?)∧Rel F (upd ι h.next e) (h.push (.buf T5 (bs++s))) w2∧Step ι h w (upd ι h.next e) (h.push (.buf T5 (bs++s))) w2:=by
 obtain⟨arr,a1,a2,a3,a4⟩:=str_cells ok r s
 have hroom:¬(281474976710656 < Builtin.nextslicecap (bs.length+s.length) cap * i.bytes):=by
  have:=nextcap_le (bs.length+s.length) cap (by omega)
  rw [hby];omega
 obtain⟨nc,n1,n2⟩:=append_new (P:=F.c.P) (w:=w) (ts:=#[T37,T9]) (ty:=T37) (t:=T37) (e:=T5) rfl hu hi (by exact h9) (base:=base) (sLen:=bs.length) (sCap:=cap) (n:=s.length) (x:=.string ⟨s.toArray⟩) (cs:=arr) (old:=oa) (z:=.int .u8 0)
  (lenA_ok (ι:=ι) (x:=.str s) rfl rfl) hle (by omega) hroom (by rw [hsz];exact a1) (by rw [hsz];exact ho) hz
 have hzs:(Builtin.zeroCells (Value.int .u8 0).cells (nc - (bs.length+s.length))).size=nc - (bs.length+s.length):=by simp [Builtin.zeroCells,Value.cells]
 have hcs:(oa++arr++Builtin.zeroCells (Value.int .u8 0).cells (nc - (bs.length+s.length))).size=nc:=by
  rw [Array.size_append,Array.size_append,ho1,a2,hzs];omega
 obtain⟨d1,d2⟩:=(r.drawn (w.drawn+1)).push fr (.cells (oa++arr++Builtin.zeroCells (Value.int .u8 0).cells (nc - (bs.length+s.length))) T5) (.buf T5 (bs++s)) ⟨w.heap.size,0,nc,1⟩ rfl
  ⟨_,by simp,rfl,hcs,by simpa using n1,by
   intro v hv
   rw [Array.toList_append,Array.toList_append,List.mem_append,List.mem_append]at hv
   rcases hv with (hv | hv) | hv
   · exact ho3 v hv
   · exact a4 v hv
   · exact zeroCells_ok' (z:=.int .u8 0) (by simp [Value.cells,oneC]) _ v hv,by
   intro j b hj
   rw [List.getElem?_append]at hj
   split at hj
   · have:=ho2 j b hj
     have hlt:=(Array.getElem?_eq_some_iff.1 this).1
     rw [Array.append_assoc,Array.getElem?_append_left hlt];exact this
   · rename_i hlt
     have:=a3 _ b hj
     have hlt2:=(Array.getElem?_eq_some_iff.1 this).1
     rw [Array.append_assoc,Array.getElem?_append_right (by omega),ho1,Array.getElem?_append_left hlt2];exact this⟩
 refine⟨nc,⟨w.heap.size,0,nc,1⟩,_,n2,rfl,n1,rfl,fun k hk=>by simp [Array.getElem?_push,Nat.ne_of_lt hk],d1,(Step.drawn ι h w _).trans d2⟩
theorem app_in_buf (ok:F.Ok) (r:Rel F ι h w) (fr:Fresh ι h.next (h.next+1)) {T37 T9 T5:Nat} (hu:F.c.P.underlying T37=some (.slice T5)) (h9:notMake F.c.P (some T9)=.ok ()) {i:TypeInfo} (hi:F.c.P.info? T5=some i) (hsz:i.size=1)
 {q:Nat} {e:Ent} {bs s:List UInt8} (hq:h.get q=some (.buf T5 bs)) (he:ι q=some e) (hle:bs.length+s.length≤e.K):
 ∃e' w2,(Builtin.append_ #[T37,T9] T37 #[.slice (some ⟨e.blk,0,none⟩) bs.length e.K,.string ⟨s.toArray⟩]).run F.c.P w=.ok (.slice (some ⟨e'.blk,0,none⟩) (bs.length+s.length) e.K) w2∧e'.K=e.K∧e'.blk=e.blk∧
  (∀k,k≠e.blk→w2.heap[k]?=w.heap[k]?)∧Rel F (upd ι h.next e') ((h.del q).push (.buf T5 (bs++s))) w2∧Step ι h w (upd ι h.next e') ((h.del q).push (.buf T5 (bs++s))) w2:=by
 obtain⟨arr,a1,a2,a3,a4⟩:=str_cells ok r s
 obtain⟨e0,g1,_,c,g2,g3,g4,g5,g6,g7⟩:=r.obj _ _ hq
 rw [he]at g1;cases g1
 have hst:=run_storeCells' (P:=F.c.P) e.blk bs.length T5 (0,0) arr.toList 0 c w g2 (.inl (Nat.le_refl _)) (by simp;omega) a4
 have hadd:((⟨e.blk,0,none⟩:Addr).add (bs.length * i.size))=⟨e.blk,bs.length,none⟩:=by rw [add_none,hsz];simp
 have happ:=append_in (P:=F.c.P) (w:=w) (ts:=#[T37,T9]) (ty:=T37) (t:=T37) (e:=T5) rfl hu hi (by exact h9) (a:=⟨e.blk,0,none⟩) (sLen:=bs.length) (sCap:=e.K) (n:=s.length) (x:=.string ⟨s.toArray⟩) (cs:=arr)
  (lenA_ok (ι:=ι) (x:=.str s) rfl rfl) hle (by rw [hsz];exact a1 w.drawn) (by rw [hadd];exact hst)
 obtain⟨row,hrow⟩:∃row,row=(c.toList.take (bs.length+0)++arr.toList++c.toList.drop (bs.length+0+arr.toList.length)).toArray:=⟨_,rfl⟩
 rw [←hrow]at happ
 have hh:=setRow_heap w e.blk c row T5 (0,0) g2
 have hrs:row.size=e.K:=by rw [hrow];simp;omega
 obtain⟨d1,d2⟩:=r.moveG fr hq he (Keep.setRow w e.blk row) (e':=e) rfl (y:=.buf T5 (bs++s)) ⟨row,hh,g3,hrs,by simpa using hle,by
  intro v hv
  rw [hrow]at hv
  simp only [List.mem_append]at hv
  rcases hv with (hv | hv) | hv
  · exact g6 v (List.mem_of_mem_take hv)
  · exact a4 v hv
  · exact g6 v (List.mem_of_mem_drop hv),by
  intro j b hj
  have e1:row[j]?=(c.toList.take (bs.length+0)++arr.toList++c.toList.drop (bs.length+0+arr.toList.length))[j]?:=by rw [hrow];simp
  have hlt:(c.toList.take (bs.length+0)).length=bs.length:=by simp;omega
  rw [e1,List.append_assoc]
  rw [List.getElem?_append]at hj
  split at hj
  · rename_i hl
    rw [List.getElem?_append_left (by omega),List.getElem?_take,if_pos (by omega)]
    have:=g7 j b hj
    simpa using this
  · rename_i hl
    have:=a3 _ b hj
    have hlt2:=(Array.getElem?_eq_some_iff.1 this).1
    rw [List.getElem?_append_right (by omega),hlt,List.getElem?_append_left (by simpa using hlt2)]
    simpa using this⟩
 exact⟨e,_,happ,rfl,rfl,fun k hk=>setRow_other w e.blk k row hk,d1,d2⟩
theorem bld_fin {H2:AHeap} {w1 w2:World} {ι2:Inj} {h1:AHeap} {o T N:Nat} {e e':Ent} {q:Option (Nat×Nat)} {v:Value} {k:Nat} (r2:Rel F ι2 H2 w2) (s2:Step ι h1 w1 ι2 H2 w2) (ho:H2.get o=some (.bld T q)) (he:ι2 o=some e) (hb0:e.base=0)
 (hb2:w2.heap[e.blk]?=some (.cells #[.pointer (some ⟨e.blk,0,none⟩),v] T (0,0))) (hk:ι2 k=some e') (hN:N≤e'.K):
 Rel F ι2 (H2.set o (.bld T (some (k,N)))) (w2.setCell ⟨e.blk,1,none⟩ (.slice (some ⟨e'.blk,0,none⟩) N e'.K))∧Step ι h1 w1 ι2 (H2.set o (.bld T (some (k,N)))) (w2.setCell ⟨e.blk,1,none⟩ (.slice (some ⟨e'.blk,0,none⟩) N e'.K)):=by
 obtain⟨d1,d2⟩:=r2.set (.bld T (some (k,N))) ho he (Keep.setCell w2 e.blk 1 (.slice (some ⟨e'.blk,0,none⟩) N e'.K))
  ⟨.pointer (some ⟨e.blk,0,none⟩),.slice (some ⟨e'.blk,0,none⟩) N e'.K,by rw [heap_setCell_same w2 e.blk 1 _ _ _ hb2];rfl,hb0,.inr rfl,.inr ⟨k,N,e',e'.K,rfl,hk,rfl,rfl,hN⟩⟩
 exact⟨d1,s2.trans d2⟩
theorem bldWrite_ok {ρ:Ren} (L:Lays.n166 F.c.P ρ) (X:Builder.Extra F.c.P ρ) (ok:F.Ok) (h9:notMake F.c.P (some (ρ.t 9))=.ok ()):∀args h v h',bldWrite (ρ.t 72) (ρ.t 5) args h=.ok (v,h')→h.next≤h'.next∧
 ∀ι w (av:Array Value),Rel F ι h w→VRels ι F.ρ args av.toList→Fresh ι h.next h'.next→CallTo F.c.P (ρ.f 166) av w (Out F ι h w v h'):=by
 intro args h v h' hq
 unfold bldWrite at hq
 obtain⟨i0,hi,hz0,hz1,hz2⟩:=info_parts X.infoByte
 have hent:∀av w,(callFunc (ρ.f 166) av).run F.c.P w=.ok (.enter (ρ.f 166) av) w:=enters_of L.f166 (by kernel_rfl) rfl
 split at hq
 rotate_left;· cases hq
 rename_i o s
 split at hq
 ·
  rename_i T hgo
  split at hq
  · cases hq
  rename_i hc
  obtain⟨rfl,hlen⟩:T=ρ.t 72∧s.length≤2 ^ 40:=⟨Decidable.byContradiction fun hh=>hc (.inl hh),Nat.le_of_not_lt fun hh=>hc (.inr hh)⟩
  have key:∀ι w (av:Array Value),Rel F ι h w→VRels ι F.ρ [.ptr o 0,.str s] av.toList→∃e p,av=#[.pointer (some ⟨e.blk,0,none⟩),.string ⟨s.toArray⟩]∧ι o=some e∧e.base=0∧w.heap[e.blk]?=some (.cells #[p,.slice none 0 0] (ρ.t 72) (0,0))∧(p=.pointer none∨p=.pointer (some ⟨e.blk,0,none⟩))∧
   ∀w1,(w1=w∨w1=w.setCell ⟨e.blk,0,none⟩ (.pointer (some ⟨e.blk,0,none⟩)))→w1.heap[e.blk]?=some (.cells #[.pointer (some ⟨e.blk,0,none⟩),.slice none 0 0] (ρ.t 72) (0,0))→Rel F ι (h.set o (.bld (ρ.t 72) none)) w1∧Step ι h w ι (h.set o (.bld (ρ.t 72) none)) w1:=by
   intro ι w av r ha
   obtain⟨v1,_,hav,⟨e,he,rfl⟩,v2,_,rfl,a2,a3⟩:=ha
   simp only [VRels]at a3;subst a3
   simp only [VRel]at a2;subst a2
   obtain⟨e',g1,_,p,v,g2,g3,g4,g5⟩:=r.obj _ _ hgo
   rw [he]at g1;cases g1
   obtain⟨_,rfl⟩:True∧v=.slice none 0 0:=⟨trivial,by rcases g5 with ⟨_,rfl⟩ | ⟨_,_,_,_,hh,_⟩;rfl;cases hh⟩
   refine⟨e,p,by apply Array.toList_inj.1;rw [hav,g3],he,g3,g2,g4,fun w1 hw1 hb1=>?_⟩
   have hkp:Keep (fun b=>b=e.blk) w w1:=by
    rcases hw1 with rfl | rfl
    · exact Keep.refl _ _
    · exact Keep.setCell _ _ _ _
   exact r.set (.bld (ρ.t 72) none) hgo he hkp ⟨_,_,hb1,g3,.inr rfl,.inl ⟨rfl,rfl⟩⟩
  split at hq
  · rename_i hs
    subst hs
    cases hq
    refine⟨Nat.le_refl _,fun ι w av r ha fr=>.inr ?_⟩
    obtain⟨e,p,rfl,he,hb0,hbk,hp,hw⟩:=key ι w av r ha
    refine⟨hent _ _,?_⟩
    refine Calls.mono (bld_write L X e.blk p (.slice none 0 0) ⟨#[]⟩ w hbk hp (fun w1 v' w2=>v'=.slice none 0 0∧w2=w1) (fun w1 hw1 hb1=>?_)) ?_
    · obtain⟨arr,a1,_,_,_⟩:=str_cells ok (hw w1 hw1 hb1).1 []
      exact⟨.slice none 0 0,w1,append_in_nil (P:=F.c.P) (w:=w1) (ts:=#[ρ.t 37,ρ.t 9]) (ty:=ρ.t 37) (t:=ρ.t 37) (e:=ρ.t 5) rfl L.t37 hi h9 (x:=.string ⟨#[]⟩) (cs:=arr) (lenA_ok (ι:=ι) (x:=.str []) rfl rfl) (by rw [hz1];exact a1 w1.drawn),hb1,⟨_,_,_,rfl⟩,rfl,rfl⟩
    · rintro e1 w' ⟨rfl,w1,v',w2,hw1,hb1,⟨rfl,rfl⟩,rfl⟩
      obtain⟨r1,s1⟩:=hw _ hw1 hb1
      obtain⟨d1,d2⟩:=r1.set (.bld (ρ.t 72) none) (x:=.bld (ρ.t 72) none) (by rw [AHeap.get_set,if_pos rfl]) he (Keep.setCell w2 e.blk 1 (.slice none 0 0))
       ⟨.pointer (some ⟨e.blk,0,none⟩),.slice none 0 0,by rw [heap_setCell_same w2 e.blk 1 _ _ _ hb1];rfl,hb0,.inr rfl,.inl ⟨rfl,rfl⟩⟩
      exact⟨ι,⟨_,rfl,⟨_,_,rfl,rfl,_,_,rfl,rfl,rfl⟩⟩,d1,s1.trans d2⟩
  · rename_i hs
    cases hq
    refine⟨by simp,fun ι w av r ha fr=>.inr ?_⟩
    obtain⟨e,p,rfl,he,hb0,hbk,hp,hw⟩:=key ι w av r ha
    have hsl:0 < s.length:=by cases s with | nil=>exact(hs rfl).elim | cons a b=>simp
    have fr':Fresh ι h.next (h.next+1):=fr
    refine⟨hent _ _,?_⟩
    refine Calls.mono (bld_write L X e.blk p (.slice none 0 0) ⟨s.toArray⟩ w hbk hp (fun w1 v' w2=>∃e',v'=.slice (some ⟨e'.blk,0,none⟩) s.length e'.K∧s.length≤e'.K∧w2.heap[e.blk]?=some (.cells #[.pointer (some ⟨e.blk,0,none⟩),.slice none 0 0] (ρ.t 72) (0,0))∧Rel F (upd ι h.next e') ((h.set o (.bld (ρ.t 72) none)).push (.buf (ρ.t 5) s)) w2∧Step ι (h.set o (.bld (ρ.t 72) none)) w1 (upd ι h.next e') ((h.set o (.bld (ρ.t 72) none)).push (.buf (ρ.t 5) s)) w2) (fun w1 hw1 hb1=>?_)) ?_
    · obtain⟨r1,s1⟩:=hw w1 hw1 hb1
      obtain⟨cap',e',w2,b1,b2,b3,b4,b5,b6,b7⟩:=app_new_buf ok r1 fr' (T37:=ρ.t 37) (T9:=ρ.t 9) (T5:=ρ.t 5) L.t37 h9 hi hz1 hz2 X.v5 (base:=none) (cap:=0) (bs:=[]) (s:=s) (oa:=#[]) (fun d=>rfl) rfl (by simp) (by simp) (by simp;omega) (by simpa using hlen)
      subst b2
      simp only [List.length_nil,Nat.zero_add,List.nil_append]at b1 b3 b6 b7
      have hb2:w2.heap[e.blk]?=some (.cells #[.pointer (some ⟨e.blk,0,none⟩),.slice none 0 0] (ρ.t 72) (0,0)):=by
       rw [b5 _ (Array.getElem?_eq_some_iff.1 hb1).1];exact hb1
      exact⟨_,w2,b1,hb2,⟨_,_,_,rfl⟩,e',rfl,b3,hb2,b6,b7⟩
    · rintro e1 w' ⟨rfl,w1,v',w2,hw1,hb1,⟨e',rfl,c1,c2,c3,c4⟩,rfl⟩
      obtain⟨r1,s1⟩:=hw _ hw1 hb1
      have hon:o≠h.next:=by have:=r.lt _ _ hgo;omega
      obtain⟨d1,d2⟩:=bld_fin c3 c4 (o:=o) (T:=ρ.t 72) (q:=none) (e:=e) (by rw [AHeap.get_push,if_neg (by simpa using hon),AHeap.get_set,if_pos rfl]) (by simp [upd,hon,he]) hb0 c2 (upd_self _ _ _) c1
      exact⟨_,⟨_,rfl,⟨_,_,rfl,by simp [VRel];rfl,_,_,rfl,rfl,rfl⟩⟩,d1,s1.trans d2⟩
 ·
  rename_i T q n hgo
  split at hq
  rotate_left;· cases hq
  rename_i T' bs hgq
  split at hq
  · cases hq
  rename_i hc
  obtain⟨rfl,rfl,rfl,hqo,hlen⟩:T=ρ.t 72∧T'=ρ.t 5∧bs.length=n∧q≠o∧n+s.length≤2 ^ 40:=
   ⟨Decidable.byContradiction fun hh=>hc (.inl hh),Decidable.byContradiction fun hh=>hc (.inr (.inl hh)),Decidable.byContradiction fun hh=>hc (.inr (.inr (.inl hh))),fun hh=>hc (.inr (.inr (.inr (.inl hh)))),Nat.le_of_not_lt fun hh=>hc (.inr (.inr (.inr (.inr hh))))⟩
  cases hq
  refine⟨by simp,fun ι w av r ha fr=>.inr ?_⟩
  have fr':Fresh ι h.next (h.next+1):=fr
  obtain⟨v1,_,hav,⟨e,he,rfl⟩,v2,_,rfl,a2,a3⟩:=ha
  simp only [VRels]at a3;subst a3
  simp only [VRel]at a2;subst a2
  obtain⟨e',g1,_,p,v,hbk,hb0,hp,g5⟩:=r.obj _ _ hgo
  rw [he]at g1;cases g1
  obtain⟨eq,hq1,rfl,hnK⟩:∃eq,ι q=some eq∧v=.slice (some ⟨eq.blk,0,none⟩) bs.length eq.K∧bs.length≤eq.K:=by
   rcases g5 with ⟨hh,_⟩ | ⟨o',n',eq,cap,hh,k1,k2,k3,k4⟩
   · cases hh
   · cases hh;subst k3;exact⟨eq,k1,k2,k4⟩
  obtain⟨e2,j1,_,c,j2,j3,j4,j5,j6,j7⟩:=r.obj _ _ hgq
  rw [hq1]at j1;cases j1
  have hne:eq.blk≠e.blk:=fun hh=>hqo (r.inj _ _ _ _ _ _ hgq hgo hq1 he hh)
  have:av=#[.pointer (some ⟨e.blk,0,none⟩),.string ⟨s.toArray⟩]:=by apply Array.toList_inj.1;rw [hav,hb0]
  subst this
  have hw:∀w1,(w1=w∨w1=w.setCell ⟨e.blk,0,none⟩ (.pointer (some ⟨e.blk,0,none⟩)))→w1.heap[e.blk]?=some (.cells #[.pointer (some ⟨e.blk,0,none⟩),.slice (some ⟨eq.blk,0,none⟩) bs.length eq.K] (ρ.t 72) (0,0))→
   Rel F ι (h.set o (.bld (ρ.t 72) (some (q,bs.length)))) w1∧Step ι h w ι (h.set o (.bld (ρ.t 72) (some (q,bs.length)))) w1:=by
   intro w1 hw1 hb1
   have hkp:Keep (fun b=>b=e.blk) w w1:=by
    rcases hw1 with rfl | rfl
    · exact Keep.refl _ _
    · exact Keep.setCell _ _ _ _
   exact r.set (.bld (ρ.t 72) (some (q,bs.length))) hgo he hkp ⟨_,_,hb1,hb0,.inr rfl,.inr ⟨q,bs.length,eq,eq.K,rfl,hq1,rfl,rfl,hnK⟩⟩
  refine⟨hent _ _,?_⟩
  have hon:o≠h.next:=by have:=r.lt _ _ hgo;omega
  refine Calls.mono (bld_write L X e.blk p (.slice (some ⟨eq.blk,0,none⟩) bs.length eq.K) ⟨s.toArray⟩ w hbk hp (fun w1 v' w2=>∃e',v'=.slice (some ⟨e'.blk,0,none⟩) (bs.length+s.length) e'.K∧bs.length+s.length≤e'.K∧w2.heap[e.blk]?=some (.cells #[.pointer (some ⟨e.blk,0,none⟩),.slice (some ⟨eq.blk,0,none⟩) bs.length eq.K] (ρ.t 72) (0,0))∧
   Rel F (upd ι h.next e') (((h.set o (.bld (ρ.t 72) (some (q,bs.length)))).del q).push (.buf (ρ.t 5) (bs++s))) w2∧Step ι (h.set o (.bld (ρ.t 72) (some (q,bs.length)))) w1 (upd ι h.next e') (((h.set o (.bld (ρ.t 72) (some (q,bs.length)))).del q).push (.buf (ρ.t 5) (bs++s))) w2) (fun w1 hw1 hb1=>?_)) ?_
  · obtain⟨r1,s1⟩:=hw w1 hw1 hb1
    have hgq1:(h.set o (.bld (ρ.t 72) (some (q,bs.length)))).get q=some (.buf (ρ.t 5) bs):=by rw [AHeap.get_set,if_neg hqo];exact hgq
    obtain⟨_,k1,_,c1,k2,k3,k4,k5,k6,k7⟩:=r1.obj _ _ hgq1
    rw [hq1]at k1;cases k1
    by_cases hle:bs.length+s.length≤eq.K
    · obtain⟨e',w2,b1,b2,b3,b5,b6,b7⟩:=app_in_buf ok r1 fr' (T37:=ρ.t 37) (T9:=ρ.t 9) (T5:=ρ.t 5) L.t37 h9 hi hz1 hgq1 hq1 hle
      have hb2:=hb1
      rw [←b5 _ (Ne.symm hne)]at hb2
      exact⟨_,w2,b1,hb2,⟨_,_,_,rfl⟩,e',by rw [b2],by rw [b2];exact hle,hb2,b6,b7⟩
    · have hoc:∃oa:Array Value,(∀d,(Builtin.firstCells 1 bs.length (.slice (some ⟨eq.blk,0,none⟩) bs.length eq.K)).run F.c.P { w1 with drawn:=d }=.ok oa { w1 with drawn:=d })∧oa.size=bs.length∧(∀(j:Nat) (b:UInt8),bs[j]?=some b→oa[j]?=some (.int .u8 b.toNat))∧∀v∈oa.toList,oneC v=true:=by
       have hcell:∀d,(loadCells ⟨eq.blk,0,none⟩ (c1.toList.take bs.length).length).run F.c.P { w1 with drawn:=d }=.ok (c1.toList.take bs.length).toArray { w1 with drawn:=d }:=fun d=>
        run_loadCells_list (P:=F.c.P) (w:={ w1 with drawn:=d }) ⟨eq.blk,0,none⟩ (c1.toList.take bs.length) (fun j v hj=>by
         rw [add_none]
         rw [List.getElem?_take]at hj
         split at hj
         · simp [World.cell?,k2];simpa using hj
         · cases hj)
       have htl:(c1.toList.take bs.length).length=bs.length:=by simp;omega
       rw [htl]at hcell
       refine⟨(c1.toList.take bs.length).toArray,fun d=>by simp only [Builtin.firstCells,Nat.mul_one];exact hcell d,by simp;omega,fun j b hj=>?_,fun v hv=>k6 v (List.mem_of_mem_take (by simpa using hv))⟩
       have:=k7 j b hj
       have hlt:=(List.getElem?_eq_some_iff.1 hj).1
       simp [List.getElem?_take,hlt];simpa using this
      obtain⟨oa,o1,o2,o3,o4⟩:=hoc
      obtain⟨cap',e',w2,b1,b2,b3,b4,b5,b6,b7⟩:=app_new_buf ok (r1.del q) fr' (T37:=ρ.t 37) (T9:=ρ.t 9) (T5:=ρ.t 5) L.t37 h9 hi hz1 hz2 X.v5 (base:=some ⟨eq.blk,0,none⟩) (cap:=eq.K) (bs:=bs) (s:=s) (oa:=oa) o1 o2 o3 o4 hle hlen
      subst b2
      have hb2:w2.heap[e.blk]?=some (.cells #[.pointer (some ⟨e.blk,0,none⟩),.slice (some ⟨eq.blk,0,none⟩) bs.length eq.K] (ρ.t 72) (0,0)):=by
       rw [b5 _ (Array.getElem?_eq_some_iff.1 hb1).1];exact hb1
      have hdel:Step ι (h.set o (.bld (ρ.t 72) (some (q,bs.length)))) w1 ι ((h.set o (.bld (ρ.t 72) (some (q,bs.length)))).del q) w1:=⟨Sub.refl _,fun _=>.inr (.inl rfl),Nat.le_refl _,Keep.refl _ _,fun b hb=>.inl hb.del⟩
      exact⟨_,w2,b1,hb2,⟨_,_,_,rfl⟩,e',rfl,b3,hb2,b6,hdel.trans b7⟩
  · rintro e1 w' ⟨rfl,w1,v',w2,hw1,hb1,⟨e',rfl,c1,c2,c3,c4⟩,rfl⟩
    obtain⟨r1,s1⟩:=hw _ hw1 hb1
    obtain⟨d1,d2⟩:=bld_fin c3 c4 (o:=o) (T:=ρ.t 72) (q:=some (q,bs.length)) (e:=e) (by rw [AHeap.get_push,if_neg (by simpa using hon),AHeap.get_del,if_neg (Ne.symm hqo),AHeap.get_set,if_pos rfl]) (by simp [upd,hon,he]) hb0 c2 (upd_self _ _ _) c1
    exact⟨_,⟨_,rfl,⟨_,_,rfl,by simp [VRel];rfl,_,_,rfl,rfl,rfl⟩⟩,d1,s1.trans d2⟩
 · cases hq
theorem bld_string {P:Program} {ρ:Ren} (L:Lays.n169 P ρ) (X:Builder.Extra P ρ) (b g cap:Nat) (p:Value) (cur:Array Value) (l:List UInt8) (w:World) (hbk:w.heap[b]?=some (.cells #[p,.slice (some ⟨g,0,none⟩) l.length cap] (ρ.t 72) (0,0)))
 (hg:w.heap[g]?=some (.cells cur (ρ.t 5) (0,0))) (hcur:cur.size=cap) (hle:l.length≤cap) (h0:l≠[]) (hlim:l.length≤2 ^ 40) (hc:∀(j:Nat) (x:UInt8),l[j]?=some x→cur[j]?=some (.int .u8 x.toNat)):
 Calls P (ρ.f 169) #[.pointer (some ⟨b,0,none⟩)] w fun e w'=>e=.returned (.string ⟨l.toArray⟩)∧w'=w.drew.freeze ⟨g,0,none⟩ l.length:=by
 have hl0:l.length≠0:=by simpa using h0
 have c1:w.drew.cell? ⟨b,1,none⟩=some (.slice (some ⟨g,0,none⟩) l.length cap):=by
  have:w.drew.heap[b]?=some (.cells #[p,.slice (some ⟨g,0,none⟩) l.length cap] (ρ.t 72) (0,0)):=hbk
  rw [Lib.cell_of_heap this];rfl
 have hSD:(Builtin.unsafeSliceData_ #[(ρ.t 37)] (ρ.t 127) #[.slice (some ⟨g,0,none⟩) l.length cap]).run P w.drew=.ok (.pointer (some ⟨g,0,none⟩)) w.drew:=
  Lib.run_unsafeSliceData_row _ _ _ _ _ _ (by omega)
 have hUS:(Builtin.unsafeString_ #[(ρ.t 127),(ρ.t 3)] (ρ.t 9) #[.pointer (some ⟨g,0,none⟩),.int .i64 l.length]).run P w.drew=.ok (.string ⟨l.toArray⟩) (w.drew.freeze ⟨g,0,none⟩ l.length):=by
  refine Lib.run_unsafeString_row w.drew (ρ.t 127) (ρ.t 3) (ρ.t 9) (ρ.t 5) L.t127 X.cellsByte g cur.size (by have hg':w.drew.heap[g]?=some (.cells cur (ρ.t 5) (0,0)):=hg;simp [World.shape?,hg']) l h0 (by omega) (by omega) ?_
  intro j x hx
  have hg':w.drew.heap[g]?=some (.cells cur (ρ.t 5) (0,0)):=hg
  rw [add_none]
  simp [World.cell?,hg',hc j x hx]
 have mixed:=L.mixed
 have t72:=L.t72;have a72:=L.a72;have z72:=L.z72;have v72:=L.v72;have u72:=run_underlying L.t72
 have t70:=L.t70;have a70:=L.a70;have z70:=L.z70;have v70:=L.v70;have u70:=run_underlying L.t70
 have t37:=L.t37;have a37:=L.a37;have z37:=L.z37;have v37:=L.v37;have u37:=run_underlying L.t37
 have t127:=L.t127;have a127:=L.a127;have z127:=L.z127;have v127:=L.v127;have u127:=run_underlying L.t127
 have t3:=L.t3;have a3:=L.a3;have z3:=L.z3;have v3:=L.v3;have u3:=run_underlying L.t3
 have t9:=L.t9;have a9:=L.a9;have z9:=L.z9;have v9:=L.v9;have u9:=run_underlying L.t9
 have t5:=X.t5;have a5:=X.a5;have z5:=X.z5;have v5:=X.v5;have u5:=run_underlying X.t5
 go_enter L.f169,Body.n169_ntmps ρ
 go_wp2
 go_region_o
 all_goals (go_wp2;go_ret;exact⟨rfl,rfl⟩)
theorem Rel.keepG (r:Rel F ι h w) {w':World} {B:Nat→Prop} (hk:Keep B w w') (hB:∀j,B j→F.N≤j) (hN:∀b,Own ι h b→¬B b):Rel F ι h w':=
 ⟨hk.below r.below (Nat.le_refl _) hB,fun o x ho=>by
  obtain⟨e,h1,h2,h3⟩:=r.obj o x ho
  exact⟨e,h1,h2,h3.mono (Sub.refl _) (hk.block _ h3.lt (hN _ ⟨o,x,e,ho,h1,rfl⟩))⟩,r.inj,r.lt⟩
theorem bldString_ok {ρ:Ren} (L:Lays.n169 F.c.P ρ) (X:Builder.Extra F.c.P ρ) (ok:F.Ok):∀args h v h',bldString (ρ.t 72) (ρ.t 5) args h=.ok (v,h')→h.next≤h'.next∧
 ∀ι w (av:Array Value),Rel F ι h w→VRels ι F.ρ args av.toList→Fresh ι h.next h'.next→CallTo F.c.P (ρ.f 169) av w (Out F ι h w v h'):=by
 intro args h v h' hq
 unfold bldString at hq
 have hent:∀av w,(callFunc (ρ.f 169) av).run F.c.P w=.ok (.enter (ρ.f 169) av) w:=enters_of L.f169 (by kernel_rfl) rfl
 split at hq
 rotate_left;· cases hq
 rename_i o
 split at hq
 · rename_i T hgo
   split at hq
   · cases hq
   rename_i hT
   obtain rfl:T=ρ.t 72:=Decidable.byContradiction hT
   cases hq
   refine⟨Nat.le_refl _,fun ι w av r ha fr=>.inr ⟨hent _ _,?_⟩⟩
   obtain⟨v1,_,hav,⟨e,he,rfl⟩,a3⟩:=ha
   simp only [VRels]at a3;subst a3
   obtain⟨e',g1,_,p,v,hbk,hb0,hp,g5⟩:=r.obj _ _ hgo
   rw [he]at g1;cases g1
   obtain rfl:v=.slice none 0 0:=by rcases g5 with ⟨_,rfl⟩ | ⟨_,_,_,_,hh,_⟩;rfl;cases hh
   have:av=#[.pointer (some ⟨e.blk,0,none⟩)]:=by apply Array.toList_inj.1;rw [hav,hb0]
   subst this
   refine Calls.mono (Any.Builder_String_nil L X w.heap.size e.blk p w hbk) ?_
   rintro e1 w' ⟨rfl,hb⟩
   have hk:Keep (fun _=>False) w w':=⟨hb.os,hb.tape,hb.output,hb.size,fun k hk _=>hb.block k hk⟩
   refine⟨ι,rfl,(r.del o).keepG hk (fun _ hh=>hh.elim) (fun _ _ hh=>hh),⟨Sub.refl _,fun _=>.inr (.inl rfl),Nat.le_refl _,hk.mono fun _ _ hh=>hh.elim,fun b hb=>.inl hb.del⟩⟩
 · rename_i T q n hgo
   split at hq
   rotate_left;· cases hq
   rename_i T' bs hgq
   split at hq
   · cases hq
   rename_i hc
   obtain⟨rfl,rfl,rfl,hqo,hn0,hlen⟩:T=ρ.t 72∧T'=ρ.t 5∧bs.length=n∧q≠o∧n≠0∧n≤2 ^ 40:=
    ⟨Decidable.byContradiction fun hh=>hc (.inl hh),Decidable.byContradiction fun hh=>hc (.inr (.inl hh)),Decidable.byContradiction fun hh=>hc (.inr (.inr (.inl hh))),fun hh=>hc (.inr (.inr (.inr (.inl hh)))),fun hh=>hc (.inr (.inr (.inr (.inr (.inl hh))))),Nat.le_of_not_lt fun hh=>hc (.inr (.inr (.inr (.inr (.inr hh)))))⟩
   cases hq
   refine⟨Nat.le_refl _,fun ι w av r ha fr=>.inr ⟨hent _ _,?_⟩⟩
   obtain⟨v1,_,hav,⟨e,he,rfl⟩,a3⟩:=ha
   simp only [VRels]at a3;subst a3
   obtain⟨e',g1,_,p,v,hbk,hb0,hp,g5⟩:=r.obj _ _ hgo
   rw [he]at g1;cases g1
   obtain⟨eq,hq1,rfl,hnK⟩:∃eq,ι q=some eq∧v=.slice (some ⟨eq.blk,0,none⟩) bs.length eq.K∧bs.length≤eq.K:=by
    rcases g5 with ⟨hh,_⟩ | ⟨o',n',eq,cap,hh,k1,k2,k3,k4⟩
    · cases hh
    · cases hh;subst k3;exact⟨eq,k1,k2,k4⟩
   obtain⟨e2,j1,j0,c,j2,j3,j4,j5,j6,j7⟩:=r.obj _ _ hgq
   rw [hq1]at j1;cases j1
   have:av=#[.pointer (some ⟨e.blk,0,none⟩)]:=by apply Array.toList_inj.1;rw [hav,hb0]
   subst this
   refine Calls.mono (bld_string L X e.blk eq.blk eq.K p c bs w hbk j2 j4 hnK (fun hh=>hn0 (by rw [hh];rfl)) hlen j7) ?_
   rintro e1 w' ⟨rfl,rfl⟩
   have hk:Keep (fun b=>b=eq.blk) w (w.drew.freeze ⟨eq.blk,0,none⟩ bs.length):=by
    unfold World.freeze
    rw [if_neg hn0]
    refine⟨rfl,rfl,rfl,?_,fun k _ hk=>?_⟩
    · show w.heap.size≤(w.heap.modify _ _).size
      rw [Array.size_modify];exact Nat.le_refl _
    · show(w.heap.modify _ _)[k]?=_
      rw [Array.getElem?_modify,if_neg (Ne.symm hk)]
   have hown:∀b,Own ι ((h.del o).del q) b→b≠eq.blk:=by
    rintro b ⟨k,x,f,k1,k2,rfl⟩ hh
    rw [AHeap.get_del]at k1
    split at k1
    · cases k1
    · rename_i hkq
      rw [AHeap.get_del]at k1
      split at k1
      · cases k1
      · exact hkq (r.inj _ _ _ _ _ _ k1 hgq k2 hq1 hh)
   refine⟨ι,rfl,((r.del o).del q).keepG hk (fun j hj=>by rw [hj];exact j0) hown,⟨Sub.refl _,fun _=>.inr (.inl rfl),Nat.le_refl _,hk.mono fun j _ hj=>⟨q,_,eq,hgq,hq1,hj.symm⟩,fun b hb=>.inl hb.del.del⟩⟩
 · cases hq
end
end Go.Proofs.YtlhlbamcgopiiaaGreatDoor
set_option linter.all false
set_option maxRecDepth 100000
namespace Go.Proofs.YtlhlbamcgopiiaaGreatDoor
open Go Go.RowKit Go.Proofs Go.Shelf
def bRen:Ren:=⟨fun n=>if n=166 then 130 else if n=169 then 131 else if n=240 then 172 else if n=276 then 197 else n,fun n=>if n=0 then 0 else if n=3 then 3 else if n=4 then 4 else if n=5 then 5 else if n=9 then 9 else if n=20 then 20 else if n=37 then 162 else if n=70 then 215 else if n=72 then 217 else if n=75 then 223 else if n=80 then 65 else if n=127 then 260 else if n=164 then 281 else n,fun n=>n⟩
theorem lays166:Lays.n166 Tryz.prog bRen where
 mixed:=Tryz.checked.mixed
 f166:=by kernel_rfl
 f240:=by kernel_rfl
 f276:=by kernel_rfl
 t0:=by kernel_rfl
 a0:=isAggR_ok (P:=Tryz.prog) (by kernel_rfl)
 z0:=run_size (P:=Tryz.prog) (by kernel_rfl)
 v0:=fun w=>by kernel_rfl
 t3:=by kernel_rfl
 a3:=isAggR_ok (P:=Tryz.prog) (by kernel_rfl)
 z3:=run_size (P:=Tryz.prog) (by kernel_rfl)
 v3:=fun w=>by kernel_rfl
 t4:=by kernel_rfl
 a4:=isAggR_ok (P:=Tryz.prog) (by kernel_rfl)
 z4:=run_size (P:=Tryz.prog) (by kernel_rfl)
 v4:=fun w=>by kernel_rfl
 t9:=by kernel_rfl
 a9:=isAggR_ok (P:=Tryz.prog) (by kernel_rfl)
 z9:=run_size (P:=Tryz.prog) (by kernel_rfl)
 v9:=fun w=>by kernel_rfl
 t20:=by kernel_rfl
 a20:=isAggR_ok (P:=Tryz.prog) (by kernel_rfl)
 z20:=run_size (P:=Tryz.prog) (by kernel_rfl)
 v20:=fun w=>by kernel_rfl
 t37:=by kernel_rfl
 a37:=isAggR_ok (P:=Tryz.prog) (by kernel_rfl)
 z37:=run_size (P:=Tryz.prog) (by kernel_rfl)
 v37:=fun w=>by kernel_rfl
 t70:=by kernel_rfl
 a70:=isAggR_ok (P:=Tryz.prog) (by kernel_rfl)
 z70:=run_size (P:=Tryz.prog) (by kernel_rfl)
 v70:=fun w=>by kernel_rfl
 t72:=by kernel_rfl
 a72:=isAggR_ok (P:=Tryz.prog) (by kernel_rfl)
 z72:=run_size (P:=Tryz.prog) (by kernel_rfl)
 v72:=fun w=>by kernel_rfl
 t75:=by kernel_rfl
 a75:=isAggR_ok (P:=Tryz.prog) (by kernel_rfl)
 z75:=run_size (P:=Tryz.prog) (by kernel_rfl)
 v75:=fun w=>by kernel_rfl
 t164:=by kernel_rfl
 a164:=isAggR_ok (P:=Tryz.prog) (by kernel_rfl)
 z164:=run_size (P:=Tryz.prog) (by kernel_rfl)
 v164:=fun w=>by kernel_rfl
theorem lays169:Lays.n169 Tryz.prog bRen where
 mixed:=Tryz.checked.mixed
 f169:=by kernel_rfl
 t0:=by kernel_rfl
 a0:=isAggR_ok (P:=Tryz.prog) (by kernel_rfl)
 z0:=run_size (P:=Tryz.prog) (by kernel_rfl)
 v0:=fun w=>by kernel_rfl
 t3:=by kernel_rfl
 a3:=isAggR_ok (P:=Tryz.prog) (by kernel_rfl)
 z3:=run_size (P:=Tryz.prog) (by kernel_rfl)
 v3:=fun w=>by kernel_rfl
 t9:=by kernel_rfl
 a9:=isAggR_ok (P:=Tryz.prog) (by kernel_rfl)
 z9:=run_size (P:=Tryz.prog) (by kernel_rfl)
 v9:=fun w=>by kernel_rfl
 t37:=by kernel_rfl
 a37:=isAggR_ok (P:=Tryz.prog) (by kernel_rfl)
 z37:=run_size (P:=Tryz.prog) (by kernel_rfl)
 v37:=fun w=>by kernel_rfl
 t70:=by kernel_rfl
 a70:=isAggR_ok (P:=Tryz.prog) (by kernel_rfl)
 z70:=run_size (P:=Tryz.prog) (by kernel_rfl)
 v70:=fun w=>by kernel_rfl
 t72:=by kernel_rfl
 a72:=isAggR_ok (P:=Tryz.prog) (by kernel_rfl)
 z72:=run_size (P:=Tryz.prog) (by kernel_rfl)
 v72:=fun w=>by kernel_rfl
 t127:=by kernel_rfl
 a127:=isAggR_ok (P:=Tryz.prog) (by kernel_rfl)
 z127:=run_size (P:=Tryz.prog) (by kernel_rfl)
 v127:=fun w=>by kernel_rfl
theorem laysX:Builder.Extra Tryz.prog bRen where
 sizeBuilder:=by kernel_rfl
 liesBuilder:=by kernel_rfl
 t5:=by kernel_rfl
 a5:=isAggR_ok (P:=Tryz.prog) (by kernel_rfl)
 z5:=run_size (P:=Tryz.prog) (by kernel_rfl)
 v5:=fun w=>by kernel_rfl
 infoByte:=by kernel_rfl
 cellsByte:=by kernel_rfl
 sizeByte:=by kernel_rfl
 neB5:=by decide
def bldWriteP:Prim:=bldWrite 217 5
theorem bldWriteP_sound (F:Fix) (hP:F.c.P=Tryz.prog) (ok:F.Ok):∀args h v h',bldWriteP args h=.ok (v,h')→h.next≤h'.next∧
 ∀ι w (av:Array Value),Rel F ι h w→VRels ι F.ρ args av.toList→Fresh ι h.next h'.next→CallTo F.c.P 130 av w (Out F ι h w v h'):=
 bldWrite_ok (ρ:=bRen) (by rw [hP];exact lays166) (by rw [hP];exact laysX) ok (by rw [hP];kernel_rfl)
def bldStringP:Prim:=bldString 217 5
theorem bldStringP_sound (F:Fix) (hP:F.c.P=Tryz.prog) (ok:F.Ok):∀args h v h',bldStringP args h=.ok (v,h')→h.next≤h'.next∧
 ∀ι w (av:Array Value),Rel F ι h w→VRels ι F.ρ args av.toList→Fresh ι h.next h'.next→CallTo F.c.P 131 av w (Out F ι h w v h'):=
 bldString_ok (ρ:=bRen) (by rw [hP];exact lays169) (by rw [hP];exact laysX) ok
end Go.Proofs.YtlhlbamcgopiiaaGreatDoor
set_option linter.all false
set_option maxRecDepth 100000
namespace Go.Proofs.YtlhlbamcgopiiaaGreatDoor
open Go Go.RowKit Go.Proofs Go.Shelf
def sRen:Ren:=⟨fun n=>if n=6 then 221 else if n=14 then 228 else if n=15 then 229 else if n=20 then 231 else if n=21 then 232 else if n=22 then 233 else if n=23 then 234 else if n=24 then 235 else if n=25 then 236 else if n=26 then 237 else if n=27 then 238 else if n=28 then 239 else if n=29 then 240 else if n=46 then 242 else if n=47 then 243 else if n=48 then 244 else if n=49 then 245 else if n=50 then 246 else if n=57 then 247 else n,fun n=>if n=22 then 56 else if n=24 then 157 else if n=25 then 291 else if n=39 then 112 else if n=45 then 311 else if n=46 then 312 else if n=50 then 263 else if n=53 then 41 else if n=55 then 26 else if n=66 then 320 else if n=70 then 323 else if n=76 then 325 else if n=77 then 326 else n,fun n=>n⟩
theorem laysS:SlLaysF0.n6 Tryz.prog sRen where
 mixed:=Tryz.checked.mixed
 f6:=⟨"slices.SortFunc[[]copyist/span.Span,copyist/span.Span]",by decide,by kernel_rfl⟩
 f14:=⟨"slices.pdqsortCmpFunc[copyist/span.Span]",by decide,by kernel_rfl⟩
 f15:=by kernel_rfl
 f20:=⟨"slices.insertionSortCmpFunc[copyist/span.Span]",by decide,by kernel_rfl⟩
 f21:=⟨"slices.heapSortCmpFunc[copyist/span.Span]",by decide,by kernel_rfl⟩
 f22:=⟨"slices.breakPatternsCmpFunc[copyist/span.Span]",by decide,by kernel_rfl⟩
 f23:=⟨"slices.choosePivotCmpFunc[copyist/span.Span]",by decide,by kernel_rfl⟩
 f24:=⟨"slices.reverseRangeCmpFunc[copyist/span.Span]",by decide,by kernel_rfl⟩
 f25:=⟨"slices.partialInsertionSortCmpFunc[copyist/span.Span]",by decide,by kernel_rfl⟩
 f26:=⟨"slices.partitionEqualCmpFunc[copyist/span.Span]",by decide,by kernel_rfl⟩
 f27:=⟨"slices.partitionCmpFunc[copyist/span.Span]",by decide,by kernel_rfl⟩
 f28:=by kernel_rfl
 f29:=by kernel_rfl
 f46:=⟨"slices.siftDownCmpFunc[copyist/span.Span]",by decide,by kernel_rfl⟩
 f47:=by kernel_rfl
 f48:=by kernel_rfl
 f49:=⟨"slices.medianAdjacentCmpFunc[copyist/span.Span]",by decide,by kernel_rfl⟩
 f50:=⟨"slices.medianCmpFunc[copyist/span.Span]",by decide,by kernel_rfl⟩
 f57:=⟨"slices.order2CmpFunc[copyist/span.Span]",by decide,by kernel_rfl⟩
 t0:=by kernel_rfl
 a0:=isAggR_ok (P:=Tryz.prog) (by kernel_rfl)
 z0:=run_size (P:=Tryz.prog) (by kernel_rfl)
 v0:=fun w=>by kernel_rfl
 t3:=by kernel_rfl
 a3:=isAggR_ok (P:=Tryz.prog) (by kernel_rfl)
 z3:=run_size (P:=Tryz.prog) (by kernel_rfl)
 v3:=fun w=>by kernel_rfl
 t4:=by kernel_rfl
 a4:=isAggR_ok (P:=Tryz.prog) (by kernel_rfl)
 z4:=run_size (P:=Tryz.prog) (by kernel_rfl)
 v4:=fun w=>by kernel_rfl
 t5:=by kernel_rfl
 a5:=isAggR_ok (P:=Tryz.prog) (by kernel_rfl)
 z5:=run_size (P:=Tryz.prog) (by kernel_rfl)
 v5:=fun w=>by kernel_rfl
 t9:=by kernel_rfl
 a9:=isAggR_ok (P:=Tryz.prog) (by kernel_rfl)
 z9:=run_size (P:=Tryz.prog) (by kernel_rfl)
 v9:=fun w=>by kernel_rfl
 t22:=by kernel_rfl
 a22:=isAggR_ok (P:=Tryz.prog) (by kernel_rfl)
 z22:=run_size (P:=Tryz.prog) (by kernel_rfl)
 v22:=fun w=>by kernel_rfl
 t25:=by kernel_rfl
 a25:=isAggR_ok (P:=Tryz.prog) (by kernel_rfl)
 z25:=run_size (P:=Tryz.prog) (by kernel_rfl)
 v25:=fun w=>by kernel_rfl
 t39:=by kernel_rfl
 a39:=isAggR_ok (P:=Tryz.prog) (by kernel_rfl)
 z39:=run_size (P:=Tryz.prog) (by kernel_rfl)
 v39:=fun w=>by kernel_rfl
 t45:=by kernel_rfl
 a45:=isAggR_ok (P:=Tryz.prog) (by kernel_rfl)
 z45:=run_size (P:=Tryz.prog) (by kernel_rfl)
 v45:=fun w=>by kernel_rfl
 t46:=by kernel_rfl
 a46:=isAggR_ok (P:=Tryz.prog) (by kernel_rfl)
 z46:=run_size (P:=Tryz.prog) (by kernel_rfl)
 v46:=fun w=>by kernel_rfl
 t50:=by kernel_rfl
 a50:=isAggR_ok (P:=Tryz.prog) (by kernel_rfl)
 z50:=run_size (P:=Tryz.prog) (by kernel_rfl)
 v50:=fun w=>by kernel_rfl
 t53:=by kernel_rfl
 a53:=isAggR_ok (P:=Tryz.prog) (by kernel_rfl)
 z53:=run_size (P:=Tryz.prog) (by kernel_rfl)
 v53:=fun w=>by kernel_rfl
 t55:=by kernel_rfl
 a55:=isAggR_ok (P:=Tryz.prog) (by kernel_rfl)
 z55:=run_size (P:=Tryz.prog) (by kernel_rfl)
 v55:=fun w=>by kernel_rfl
 t66:=by kernel_rfl
 a66:=isAggR_ok (P:=Tryz.prog) (by kernel_rfl)
 z66:=run_size (P:=Tryz.prog) (by kernel_rfl)
 v66:=fun w=>by kernel_rfl
 t70:=by kernel_rfl
 a70:=isAggR_ok (P:=Tryz.prog) (by kernel_rfl)
 z70:=run_size (P:=Tryz.prog) (by kernel_rfl)
 v70:=fun w=>by kernel_rfl
 t76:=by kernel_rfl
 a76:=isAggR_ok (P:=Tryz.prog) (by kernel_rfl)
 z76:=run_size (P:=Tryz.prog) (by kernel_rfl)
 v76:=fun w=>by kernel_rfl
 t77:=by kernel_rfl
 a77:=isAggR_ok (P:=Tryz.prog) (by kernel_rfl)
 z77:=run_size (P:=Tryz.prog) (by kernel_rfl)
 v77:=fun w=>by kernel_rfl
end Go.Proofs.YtlhlbamcgopiiaaGreatDoor
set_option linter.all false
set_option maxRecDepth 100000
set_option maxHeartbeats 4000000
namespace Go.Proofs
open Go Go.Lib
theorem Tryz.nan16 (x:Int) (w:World):Calls Tryz.prog 208 #[.int .u16 x] w fun e w'=>e=.returned (.bool false)∧w'=w:=by
 go_enter Tryz.func208,Tryz.ntmps208
 go_wp2
 go_ret
 exact⟨by simp,rfl⟩
theorem Tryz.nan32 (x:Int) (w:World):Calls Tryz.prog 209 #[.int .u32 x] w fun e w'=>e=.returned (.bool false)∧w'=w:=by
 go_enter Tryz.func209,Tryz.ntmps209
 go_wp2
 go_ret
 exact⟨by simp,rfl⟩
theorem Tryz.cmp16 (x y:Int) (w:World):Calls Tryz.prog 183 #[.int .u16 x,.int .u16 y] w fun e w'=>e=.returned (.int .i64 (Lib.compareInt x y))∧w'=w:=by
 go_enter Tryz.func183,Tryz.ntmps183
 go_wp2_with (go_at_call 208;refine(Tryz.nan16 _ _).mono ?_;rintro e w' ⟨rfl,hw⟩;rw [hw])
 all_goals (go_ret;refine⟨?_,rfl⟩;unfold Lib.compareInt;(repeat' split) <;> first | rfl | (exfalso;omega))
theorem Tryz.cmp32 (x y:Int) (w:World):Calls Tryz.prog 184 #[.int .u32 x,.int .u32 y] w fun e w'=>e=.returned (.int .i64 (Lib.compareInt x y))∧w'=w:=by
 go_enter Tryz.func184,Tryz.ntmps184
 go_wp2_with (go_at_call 209;refine(Tryz.nan32 _ _).mono ?_;rintro e w' ⟨rfl,hw⟩;rw [hw])
 all_goals (go_ret;refine⟨?_,rfl⟩;unfold Lib.compareInt;(repeat' split) <;> first | rfl | (exfalso;omega))
theorem Tryz.or2 (b:Nat) (x y:Int) (w:World) (h0:w.cell? ⟨b,0,none⟩=some (.int .i64 x)) (h1:w.cell? ⟨b,1,none⟩=some (.int .i64 y)):Calls Tryz.prog 181 #[.slice (some ⟨b,0,none⟩) 2 2] w fun e w'=>e=.returned (.int .i64 (if x≠0 then x else y))∧w'=w:=by
 go_enter Tryz.func181,Tryz.ntmps181
 go_wp2
 go_rounds 3
 all_goals (go_ret;refine⟨?_,rfl⟩;simp_all)
theorem heap2 (w:World) (o1 o2:Obj):((w.alloc o1).alloc o2).heap[w.heap.size]?=some o1∧((w.alloc o1).alloc o2).heap[w.heap.size+1]?=some o2:=by
 constructor
 · show((w.heap.push o1).push o2)[w.heap.size]?=_
   rw [Array.getElem?_push,if_neg (by simp),Array.getElem?_push,if_pos rfl]
 · show((w.heap.push o1).push o2)[w.heap.size+1]?=_
   rw [Array.getElem?_push,if_pos (by simp)]
theorem cell_at {w:World} {b:Nat} {vs:Array Value} {T:TypeId} (h:w.heap[b]?=some (.cells vs T)) (i:Nat):w.cell? ⟨b,i,none⟩=vs[i]?:=by
 unfold World.cell?
 simp [h]
theorem cellA (w:World) (x y:Value) (T:TypeId):(w.alloc (.cells #[x,y] T)).cell? ⟨w.heap.size,0,none⟩=some x∧(w.alloc (.cells #[x,y] T)).cell? ⟨w.heap.size,1,none⟩=some y:=by
 have:(w.alloc (.cells #[x,y] T)).heap[w.heap.size]?=some (.cells #[x,y] T):=by
  show(w.heap.push _)[w.heap.size]?=_
  rw [Array.getElem?_push,if_pos rfl]
 exact⟨(cell_at this 0).trans rfl,(cell_at this 1).trans rfl⟩
def cmpId (r n s m:Int):Int:=if Lib.compareInt r s≠0 then Lib.compareInt r s else Lib.compareInt n m
theorem Tryz.idCmp (r n s m:Int) (w:World):Calls Tryz.prog 206 #[.agg #[.int .u16 r,.int .u32 n],.agg #[.int .u16 s,.int .u32 m]] w fun e w'=>e=.returned (.int .i64 (cmpId r n s m))∧∃q os',w'=Go.Sort.grow (w.drewN q) os':=by
 obtain⟨c1,hc1⟩:∃c1,c1=Lib.compareInt r s:=⟨_,rfl⟩
 obtain⟨c2,hc2⟩:∃c2,c2=Lib.compareInt n m:=⟨_,rfl⟩
 have k1:∀W,Calls Tryz.prog 183 #[.int .u16 r,.int .u16 s] W fun e w'=>e=.returned (.int .i64 c1)∧w'=W:=fun W=>by rw [hc1];exact Tryz.cmp16 r s W
 have k2:∀W,Calls Tryz.prog 184 #[.int .u32 n,.int .u32 m] W fun e w'=>e=.returned (.int .i64 c2)∧w'=W:=fun W=>by rw [hc2];exact Tryz.cmp32 n m W
 unfold cmpId
 rw [←hc1,←hc2]
 clear hc1 hc2
 obtain⟨c3,hc3⟩:∃c3,c3=if c1≠0 then c1 else c2:=⟨_,rfl⟩
 have k3:∀b W,W.cell? ⟨b,0,none⟩=some (.int .i64 c1)→W.cell? ⟨b,1,none⟩=some (.int .i64 c2)→Calls Tryz.prog 181 #[.slice (some ⟨b,0,none⟩) 2 2] W fun e w'=>e=.returned (.int .i64 c3)∧w'=W:=fun b W h0 h1=>by rw [hc3];exact Tryz.or2 b c1 c2 W h0 h1
 rw [←hc3]
 clear hc3
 go_enter Tryz.func206,Tryz.ntmps206
 go_wp2
 obtain⟨W,hW⟩:∃W,W=(w.alloc (.cells #[.int .u16 r,.int .u32 n] 55)).alloc (.cells #[.int .u16 s,.int .u32 m] 55):=⟨_,rfl⟩
 have hp:=heap2 w (.cells #[.int .u16 r,.int .u32 n] 55) (.cells #[.int .u16 s,.int .u32 m] 55)
 rw [←hW]at hp ⊢
 have fin:∀q os',Go.Sort.grow (W.drewN q) os'=Go.Sort.grow (w.drewN q) (#[.cells #[.int .u16 r,.int .u32 n] 55,.cells #[.int .u16 s,.int .u32 m] 55]++os'):=fun q os'=>by
  rw [hW,Go.Sort.alloc_eq_grow,Go.Sort.alloc_eq_grow,Go.Sort.grow_grow]
  show Go.Sort.grow (Go.Sort.grow (w.drewN q) _) os'=_
  rw [Go.Sort.grow_grow];rfl
 obtain⟨B,hB⟩:∃B,B=w.heap.size:=⟨_,rfl⟩
 rw [←hB]at hp ⊢
 clear hW hB
 obtain⟨W2,hW2⟩:∃W2,W2=W.drew:=⟨_,rfl⟩
 have f0:W2.cell? ⟨B,0,none⟩=some (.int .u16 r):=by rw [hW2];exact(cell_at hp.1 0).trans rfl
 have f1:W2.cell? ⟨B,1,none⟩=some (.int .u32 n):=by rw [hW2];exact(cell_at hp.1 1).trans rfl
 have f2:W2.cell? ⟨B+1,0,none⟩=some (.int .u16 s):=by rw [hW2];exact(cell_at hp.2 0).trans rfl
 have f3:W2.cell? ⟨B+1,1,none⟩=some (.int .u32 m):=by rw [hW2];exact(cell_at hp.2 1).trans rfl
 have fin2:∀q os',Go.Sort.grow (W2.drewN q) os'=Go.Sort.grow (w.drewN (1+q)) (#[.cells #[.int .u16 r,.int .u32 n] 55,.cells #[.int .u16 s,.int .u32 m] 55]++os'):=fun q os'=>by
  rw [←fin,hW2]
  show Go.Sort.grow { W with drawn:=W.drawn+1+q } os'=Go.Sort.grow { W with drawn:=W.drawn+(1+q) } os'
  rw [Nat.add_assoc]
 clear hp fin
 refine wp_region_still_tail 10 (by kernel_rfl) (by kernel_rfl) ?_
 rw [show({ W with drawn:=W.drawn+1 }:World)=W2 from hW2.symm]
 clear hW2
 simp only [List.take_succ_cons,List.take_zero,List.drop_succ_cons,List.drop_zero]
 still_step
 still_step
 still_step
 still_step
 still_call (k1 _)
 still_step
 still_step
 still_step
 still_step
 still_call (k2 _)
 refine wpStill_nil ?_
 try rw [show({ W with drawn:=W.drawn+1 }:World)=W2 from rfl]
 go_wp2_with (go_at_call 181;refine(k3 _ _ (cellA _ _ _ _).1 (cellA _ _ _ _).2).mono ?_;rintro e w' ⟨rfl,rfl⟩)
 go_ret
 refine⟨rfl,1+0,(#[Obj.cells #[.int .u16 r,.int .u32 n] 55,.cells #[.int .u16 s,.int .u32 m] 55]++#[.cells #[.int .i64 c1,.int .i64 c2] 3]:Array Obj),?_⟩
 rw [Go.Sort.alloc_eq_grow,←fin2]
 rfl
def encS (x:Int×Int×Int):List Value:=[.int .u16 x.1,.int .u32 x.2.1,.int .i64 x.2.2]
def cmpS (x y:Int×Int×Int):Int:=cmpId x.1 x.2.1 y.1 y.2.1
theorem Tryz.spanCmp (x y:Int×Int×Int) (w:World):Calls Tryz.prog 205 #[.agg #[.int .u16 x.1,.int .u32 x.2.1,.int .i64 x.2.2],.agg #[.int .u16 y.1,.int .u32 y.2.1,.int .i64 y.2.2]] w fun e w'=>e=.returned (.int .i64 (cmpS x y))∧∃q os',w'=Go.Sort.grow (w.drewN q) os':=by
 obtain⟨r,n,k⟩:=x
 obtain⟨s,m,l⟩:=y
 simp only [cmpS]
 obtain⟨c,hc⟩:∃c,c=cmpId r n s m:=⟨_,rfl⟩
 have k1:∀W,Calls Tryz.prog 206 #[.agg #[.int .u16 r,.int .u32 n],.agg #[.int .u16 s,.int .u32 m]] W fun e w'=>e=.returned (.int .i64 c)∧∃q os',w'=Go.Sort.grow (W.drewN q) os':=fun W=>by rw [hc];exact Tryz.idCmp r n s m W
 rw [←hc]
 clear hc
 go_enter Tryz.func205,Tryz.ntmps205
 go_wp2_with (go_at_call 206;refine(k1 _).mono ?_;rintro e w' ⟨rfl,q,os',rfl⟩)
 go_ret
 refine⟨rfl,q,#[.cells #[.int .u16 r,.int .u32 n,.int .i64 k] 157,.cells #[.int .u16 s,.int .u32 m,.int .i64 l] 157]++os',?_⟩
 rw [Go.Sort.alloc_eq_grow,Go.Sort.alloc_eq_grow,Go.Sort.grow_grow]
 show Go.Sort.grow (Go.Sort.grow (w.drewN q) _) os'=_
 rw [Go.Sort.grow_grow]
 rfl
end Go.Proofs
set_option linter.all false
set_option maxRecDepth 100000
set_option maxHeartbeats 4000000
namespace Go.Proofs.YtlhlbamcgopiiaaGreatDoor
open Go Go.Proofs Go.Shelf Go.Sort
theorem ci_lt (a b:Int):Lib.compareInt a b < 0↔a < b:=by
 unfold Lib.compareInt
 by_cases h1:a < b
 · simp [h1]
 · by_cases h2:b < a <;> simp [h1,h2]
theorem ci_z (a b:Int):Lib.compareInt a b=0↔a=b:=by
 unfold Lib.compareInt
 by_cases h1:a < b
 · simp [h1];omega
 · by_cases h2:b < a
   · simp [h1,h2];omega
   · simp [h1,h2];omega
theorem ltS (x y:Int×Int×Int):ltOf cmpS x y=decide (x.1 < y.1∨(x.1=y.1∧x.2.1 < y.2.1)):=by
 unfold ltOf cmpS cmpId
 have h1:=ci_lt x.1 y.1
 have h2:=ci_z x.1 y.1
 have h3:=ci_lt x.2.1 y.2.1
 by_cases c:Lib.compareInt x.1 y.1=0
 · have e:=h2.1 c
   simp only [c,ne_eq,not_true,if_false]
   congr 1
   apply propext
   rw [h3]
   constructor
   · intro h;exact .inr ⟨e,h⟩
   · rintro(h | h)
     · omega
     · exact h.2
 · simp only [ne_eq,c,not_false_iff,if_true]
   congr 1
   apply propext
   rw [h1]
   have:x.1≠y.1:=fun h=>c (h2.2 h)
   constructor
   · exact .inl
   · rintro(h | h)
     · exact h
     · exact(this h.1).elim
theorem swoS:SWO (ltOf cmpS) where
 irrefl x:=by rw [ltS];simp
 trans x y z h1 h2:=by rw [ltS]at *;simp at *;omega
 ntrans x y z h1 h2:=by rw [ltS]at *;simp at *;omega
theorem sort_calls (blk off cap:Nat) (d:Array (Int×Int×Int)) (w:World) (hH:HoldsK encS 3 w blk off d) (hblk:blk < w.heap.size) (hsz:d.size < 4611686018427387904):
 Calls Tryz.prog 221 #[.slice (some ⟨blk,off,none⟩) d.size cap,.func (.func 205) #[] #[]] w fun e w'=>e=.returned (.tuple #[])∧∃n os,w'=sortWorldK encS 3 w blk off n (pdq (ltOf cmpS) d 0 d.size (Lib.bitLen d.size) true true) os:=by
 have eg:∀args w,(callFunc 205 args).run Tryz.prog w=.ok (.enter 205 args) w:=enters_of Tryz.func205 (by kernel_rfl) rfl
 have hc:=AnyQ.slices_SortFunc_eq laysS 3 (isAggR_ok (P:=Tryz.prog) (by kernel_rfl)) (run_size (P:=Tryz.prog) (by kernel_rfl)) encS (fun _=>rfl) (fun x v hv=>by simp [encS]at hv;rcases hv with rfl | rfl | rfl <;> rfl) cmpS swoS 205 #[] blk off cap d w eg (fun _ _ _ _ x y=>Tryz.spanCmp x y _) hH hblk hsz
 exact hc
end Go.Proofs.YtlhlbamcgopiiaaGreatDoor
set_option linter.all false
set_option maxRecDepth 100000
set_option maxHeartbeats 4000000
namespace Go.Proofs.YtlhlbamcgopiiaaGreatDoor
open Go Go.RowKit Go.Proofs Go.Shelf Go.Sort
def aS (x:Int×Int×Int):List AVal:=[.int .u16 x.1,.int .u32 x.2.1,.int .i64 x.2.2]
def conv:Value→AVal
 | .int k n=>.int k n
 | _=>.dead
theorem aS_conv (x:Int×Int×Int):aS x=(encS x).map conv:=rfl
def sRow:List AVal→Option (List (Int×Int×Int))
 | []=>some []
 | .int .u16 r :: .int .u32 n :: .int .i64 l :: t=>(sRow t).map ((r,n,l) :: ·)
 | _=>none
theorem sRow_ok:∀{vs:List AVal} {l:List (Int×Int×Int)},sRow vs=some l→vs=l.flatMap aS
 | [],l,h=>by simp [sRow]at h;subst h;rfl
 | .int .u16 r :: .int .u32 n :: .int .i64 k :: t,l,h=>by
  simp only [sRow,Option.map_eq_some_iff]at h
  obtain⟨m,hm,rfl⟩:=h
  rw [sRow_ok hm];rfl
theorem sRow_of:∀l:List (Int×Int×Int),sRow (l.flatMap aS)=some l
 | []=>rfl
 | x :: l=>by
  show(sRow (l.flatMap aS)).map _=_
  rw [sRow_of l];rfl
def srt (l:List (Int×Int×Int)):List (Int×Int×Int):=(pdq (ltOf cmpS) l.toArray 0 l.length (Lib.bitLen l.length) true true).toList
theorem srt_ok (l:List (Int×Int×Int)):PermIn 0 l.length l.toArray (pdq (ltOf cmpS) l.toArray 0 l.length (Lib.bitLen l.length) true true)∧SortedIn (ltOf cmpS) 0 l.length (pdq (ltOf cmpS) l.toArray 0 l.length (Lib.bitLen l.length) true true):=
 pdq_sorts (ltOf cmpS) swoS l.toArray 0 l.length (Lib.bitLen l.length) true true (Nat.zero_le _) (Nat.le_refl _) (Or.inl rfl)
theorem srt_size (l:List (Int×Int×Int)):(pdq (ltOf cmpS) l.toArray 0 l.length (Lib.bitLen l.length) true true).size=l.length:=(srt_ok l).1.1
theorem srt_len (l:List (Int×Int×Int)):(srt l).length=l.length:=by
 unfold srt;rw [Array.length_toList,srt_size]
theorem srt_perm (l:List (Int×Int×Int)):(srt l).Perm l:=by
 have h:=(srt_ok l).1.2.2
 unfold srt
 have e:=srt_size l
 generalize pdq (ltOf cmpS) l.toArray 0 l.length (Lib.bitLen l.length) true true=d at h e
 have h1:d.extract 0 l.length=d:=by rw [←e];exact Array.extract_size
 have h2:l.toArray.extract 0 l.length=l.toArray:=by simp
 rw [h1,h2]at h
 simpa using h
def sortC (h:AHeap) (o n:Nat):Res (AVal×AHeap):=
 match h.get o with
 | some (.row 3 false vs)=>match sRow (vs.take (n * 3))with
  | some l=>if l.length=n∧n < 2 ^ 40 then .ok (.tuple [],h.set o (.row 3 false ((srt l).flatMap aS++vs.drop (n * 3))))else .err 301
  | none=>.err 302
 | _=>.err 303
def sortP:Prim:=fun args h=>match args with
 | [.sl o 0 n,.func 205 [] []]=>sortC h o n
 | [.slc o 0 n _,.func 205 [] []]=>sortC h o n
 | _=>.err 304
theorem fm_len:∀l:List (Int×Int×Int),(l.flatMap aS).length=l.length * 3
 | []=>rfl
 | x :: l=>by simp only [List.flatMap_cons,List.length_append,fm_len l,List.length_cons,aS,List.length_nil];omega
theorem fm_get:∀(l:List (Int×Int×Int)) (i c:Nat) (hi:i < l.length),c < 3→(l.flatMap aS)[i * 3+c]?=(aS l[i])[c]?
 | x :: l,0,c,hi,hc=>by
  simp only [List.flatMap_cons,Nat.zero_mul,Nat.zero_add]
  rw [List.getElem?_append_left (by simp [aS];omega)];rfl
 | x :: l,i+1,c,hi,hc=>by
  simp only [List.flatMap_cons]
  rw [List.getElem?_append_right (by simp [aS];omega),show(i+1) * 3+c - (aS x).length=i * 3+c by simp [aS];omega,fm_get l i c (by simpa using hi) hc]
  rfl
theorem fm_at (d:Array (Int×Int×Int)) (j:Nat) (hj:j < d.size * 3):(d.toList.flatMap aS)[j]?=some (conv (flatK encS 3 d)[j]!):=by
 rw [get_flatK _ _ _ _ hj]
 have h1:j / 3 < d.toList.length:=by rw [Array.length_toList];omega
 have h2:j % 3 < 3:=Nat.mod_lt _ (by omega)
 have h:=fm_get d.toList (j / 3) (j % 3) h1 h2
 rw [show j / 3 * 3+j % 3=j by omega]at h
 rw [h,getElem!_pos d (j / 3) (by simpa using h1),aS_conv]
 have:d.toList[j / 3]=d[j / 3]'(by simpa using h1):=by simp
 rw [this]
 generalize d[j / 3]'(by simpa using h1)=x
 rcases(show j % 3=0∨j % 3=1∨j % 3=2 by omega)with e | e | e <;> rw [e] <;> rfl
theorem flat_int (d:Array (Int×Int×Int)) (j:Nat) (hj:j < d.size * 3):∃k n,(flatK encS 3 d)[j]! =.int k n:=by
 rw [get_flatK _ _ _ _ hj]
 have h2:j % 3 < 3:=Nat.mod_lt _ (by omega)
 generalize d[j / 3]! =x
 rcases(show j % 3=0∨j % 3=1∨j % 3=2 by omega)with e | e | e <;> rw [e]
 · exact⟨_,_,rfl⟩
 · exact⟨_,_,rfl⟩
 · exact⟨_,_,rfl⟩
end Go.Proofs.YtlhlbamcgopiiaaGreatDoor
set_option linter.all false
set_option maxRecDepth 100000
set_option maxHeartbeats 4000000
namespace Go.Proofs.YtlhlbamcgopiiaaGreatDoor
open Go Go.RowKit Go.Proofs Go.Shelf Go.Sort
theorem pc_size (off:Nat) (d c:Array Value):(putCells id off d c).size=c.size:=by simp [putCells]
theorem pc_get (off:Nat) (d c:Array Value) (k:Nat):(putCells id off d c)[k]?=(c[k]?).map fun x=>if off≤k∧k < off+d.size then d[k - off]! else x:=by
 simp [putCells,Array.getElem?_mapIdx]
theorem sort_heap {w:World} {b n x:Nat} {d:Array (Int×Int×Int)} {os:Array Obj} {c:Array Value} {T:TypeId} {fr:Nat×Nat} (h:w.heap[b]?=some (.cells c T fr)):
 (sortWorldK encS 3 w b x n d os).heap[b]?=some (.cells (putCells id x (flatK encS 3 d) c) T fr)∧Keep (fun k=>k=b) w (sortWorldK encS 3 w b x n d os):=by
 have hb:b < w.heap.size:=by
  rcases Nat.lt_or_ge b w.heap.size with h1 | h1
  · exact h1
  · rw [Array.getElem?_eq_none h1]at h;cases h
 have hs:(w.heap.modify b (onCells (putCells id x (flatK encS 3 d)))).size=w.heap.size:=by simp
 constructor
 · show(w.heap.modify b (onCells (putCells id x (flatK encS 3 d)))++os)[b]?=_
   rw [Array.getElem?_append_left (by rw [hs];exact hb),Array.getElem?_modify,if_pos rfl,h]
   rfl
 · refine⟨rfl,rfl,rfl,?_,fun k hk hne=>?_⟩
   · show w.heap.size≤(w.heap.modify b (onCells (putCells id x (flatK encS 3 d)))++os).size
     rw [Array.size_append,hs];omega
   · show(w.heap.modify b (onCells (putCells id x (flatK encS 3 d)))++os)[k]?=_
     rw [Array.getElem?_append_left (by rw [hs];exact hk),Array.getElem?_modify,if_neg (fun e=>hne e.symm)]
end Go.Proofs.YtlhlbamcgopiiaaGreatDoor
set_option linter.all false
set_option maxRecDepth 100000
set_option maxHeartbeats 4000000
namespace Go.Proofs
open Go Go.RowKit Go.Lib Go.Sort
def IntsW (w:World) (v:Value):Prop:=∀g cur,v.ownBlock=some g→w.heap[g]?=some (.cells cur 157 (0,0))→∀u∈cur.toList,∃k n,u=.int k n
theorem IntsW.kept {w w':World} {base e size:Nat} {v:Value} {n:Nat} {xs:List Value} {row:Option Nat} (h:IntsW w v) (hown:w.ownsRow base e size v n xs) (hg:w.grownBy w' row) (hne:v.ownBlock=none∨v.ownBlock≠row):IntsW w' v:=by
 intro g cur hv hc
 refine h g cur hv ?_
 rcases hne with hne | hne
 · rw [hv]at hne;cases hne
 · rw [hg.block g (hown.lt g hv).2 (by rw [←hv];exact hne)]at hc
   exact hc
theorem ints_enc (x:Int×Int×Int):∀u∈encS x,∃k n,u=.int k n:=by
 intro u hu
 simp [encS]at hu
 rcases hu with rfl | rfl | rfl <;> exact⟨_,_,rfl⟩
theorem ints_zero (k:Nat):∀u∈(Builtin.zeroCells (Value.agg #[.int .u16 0,.int .u32 0,.int .i64 0]).cells k).toList,∃k n,u=.int k n:=by
 intro u hu
 simp only [Builtin.zeroCells,Array.toList_map,List.mem_map]at hu
 obtain⟨i,_,rfl⟩:=hu
 have:i % 3 < 3:=Nat.mod_lt _ (by omega)
 show ∃k n,(#[Value.int .u16 0,.int .u32 0,.int .i64 0]:Array Value)[i % 3]! =.int k n
 rcases(show i % 3=0∨i % 3=1∨i % 3=2 by omega)with e | e | e <;> rw [e] <;> exact⟨_,_,rfl⟩
theorem run_app3 (w:World) (base ty:Nat) {i:TypeInfo} (hi:Tryz.prog.info? 157=some i) (hz:i.zero=some (.agg #[.int .u16 0,.int .u32 0,.int .i64 0])) (hsz:i.size=3) (hby:i.bytes=16) (v:Value) (n:Nat) (xs:List Value) (hown:w.ownsRow base 157 3 v n xs) (hI:IntsW w v) (a:Addr) (c:Nat) (x:Int×Int×Int) (hnews:∀j u,(encS x)[j]?=some u→w.cell? (a.add j)=some u) (hn:n < 2 ^ 40) (hbase:base≤w.heap.size):
 ∃v' w',(Builtin.append_ #[56,56] ty #[v,.slice (some a) 1 c]).run Tryz.prog w=.ok v' w'∧w'.ownsRow base 157 3 v' (n+1) (xs++encS x)∧w.grownBy w' v.ownBlock∧IntsW w' v':=by
 have hun:Tryz.prog.underlying 56=some (.slice 157):=by kernel_rfl
 have hone:∀u∈encS x,u.oneCell'=true:=by simp [Value.oneCell',encS]
 have hl:(encS x).length=1 * i.size:=by rw [hsz];rfl
 obtain⟨v',w',hr,h1,h2,h3⟩:=run_append_own (P:=Tryz.prog) w base 56 ty 157 i _ 3 16 hun hi hz hsz hby rfl (by decide) v n xs hown a 1 c (encS x) rfl hnews hone (by simp only [maxLen];omega) (by omega) hbase
 refine⟨v',w',hr,h1,h2,?_⟩
 rcases hown.2 with ⟨rfl,rfl⟩ | ⟨g,cap,cur,rfl,hbg,hg,hnc,hcm,hcs,htake⟩
 · have hr2:=run_append_nil (P:=Tryz.prog) w 56 ty 157 i _ hun hi hz a 1 c (encS x) hl hnews (by omega) (by omega) (by omega)
   rw [hr]at hr2
   injection hr2 with e1 e2
   subst e1 e2
   intro g cur hg hc u hu
   simp only [Value.ownBlock]at hg
   cases hg
   replace hc:=(World.alloc_heap_new w.drew _).symm.trans hc
   cases hc
   simp only [Array.toList_append,List.mem_append]at hu
   rcases hu with hu | hu
   · exact ints_enc x u (by simpa using hu)
   · exact ints_zero _ u hu
 · by_cases hroom:n+1≤cap
   · have hr2:=run_append_room (P:=Tryz.prog) w 56 ty 157 i hun hi g n cap cur hg a 1 c (encS x) hl hnews hone hroom (by rw [hsz,hcs];simp only [encS,List.length_cons,List.length_nil];omega)
     rw [hr]at hr2
     injection hr2 with e1 e2
     subst e1 e2
     intro g' cur' hg' hc u hu
     simp only [Value.ownBlock]at hg'
     cases hg'
     rw [setRow_heap w g cur _ 157 _ hg]at hc
     cases hc
     have hcur:=hI g cur rfl hg
     rcases List.mem_append.1 hu with hu | hu
     · rcases List.mem_append.1 hu with hu | hu
       · exact hcur u (List.mem_of_mem_take hu)
       · exact ints_enc x u hu
     · exact hcur u (List.mem_of_mem_drop hu)
   · have holds:∀j u,xs[j]?=some u→w.cell? ((⟨g,0,none⟩:Addr).add j)=some u:=hown.cells (g:=g) rfl
     have hr2:=run_append_grow (P:=Tryz.prog) w 56 ty 157 i _ hun hi hz ⟨g,0,none⟩ n cap xs (by rw [hsz];exact hown.1) holds a 1 c (encS x) hl hnews (by omega) (by omega) (growslice_fits (by omega) (by rw [hby];omega))
     rw [hr]at hr2
     injection hr2 with e1 e2
     subst e1 e2
     intro g' cur' hg' hc u hu
     simp only [Value.ownBlock]at hg'
     cases hg'
     replace hc:=(World.alloc_heap_new w.drew _).symm.trans hc
     cases hc
     have hcur:=hI g cur rfl hg
     simp only [Array.toList_append,List.mem_append]at hu
     rcases hu with (hu | hu) | hu
     · have hu':u∈xs:=by simpa using hu
       rw [←htake]at hu'
       exact hcur u (List.mem_of_mem_take hu')
     · exact ints_enc x u (by simpa using hu)
     · exact ints_zero _ u hu
theorem wpListIn_app3 {F:Fence} {m:Nat} (w:World) {ops:Array Oper} {rest:List Oper} {o:Oper} {a:Act} {Q:Exit→Act→World→Prop}
 (hg:o.guard=none) (s y:Operand) (hop:o.op=Op.call { callee:=Callee.builtin Builtin.append,args:=#[s,y],argTypes:=#[56,56] })
 (base:Nat) {i:TypeInfo} (hi:Tryz.prog.info? 157=some i) (hz:i.zero=some (.agg #[.int .u16 0,.int .u32 0,.int .i64 0])) (hsz:i.size=3) (hby:i.bytes=16)
 (v:Value) (k:Nat) (xs:List Value) (hs:a.eval s=v) (hown:w.ownsRow base 157 3 v k xs) (hI:IntsW w v) (ad:Addr) (c:Nat) (x:Int×Int×Int) (hx:a.eval y=.slice (some ad) 1 c)
 (hc:∀j u,(encS x)[j]?=some u→w.cell? (ad.add j)=some u) (hk:k < 2 ^ 40) (b3:base≤w.heap.size)
 (hK:∀v' w',w'.ownsRow base 157 3 v' (k+1) (xs++encS x)→w.grownBy w' v.ownBlock→IntsW w' v'→wpListIn F m Tryz.prog ops Q rest (a.put o.dst v') w'):
 wpListIn F m Tryz.prog ops Q (o :: rest) a w:=by
 refine wpListIn_plain hg fun K hK'=>?_
 obtain⟨v',w',hrun,r1,r2,r3⟩:=run_app3 w base o.type hi hz hsz hby v k xs hown hI ad c x hc hk b3
 unfold Oper.wpIn
 refine⟨?_,?_⟩
 · simp [Oper.about,hop,resolve,Target.leads,Sem.run_pure]
 · rw [Oper.semAt_plain F _ _ (by rw [hop];intro c hc';cases hc')]
   simp [execOp,hop,resolve,invoke,builtin,hs,hx,hrun,Result.andThen]
   exact hK' _ _ (hK v' w' r1 r2 r3)
end Go.Proofs
set_option linter.all false
set_option maxRecDepth 100000
set_option maxHeartbeats 4000000
namespace Go.Proofs
open Go Go.RowKit Go.Lib Go.Sort
abbrev vS (x:Int×Int×Int):Value:=.agg #[.int .u16 x.1,.int .u32 x.2.1,.int .i64 x.2.2]
def LiesS (o:Obj) (off:Nat) (xs:List (Int×Int×Int)):Prop:=∃c T fr,o=.cells c T fr∧∀(i:Nat) (x:Int×Int×Int),xs[i]?=some x→c[off+i * 3]?=some (.int .u16 x.1)∧c[off+i * 3+1]?=some (.int .u32 x.2.1)∧c[off+i * 3+2]?=some (.int .i64 x.2.2)
theorem cellF {w:World} {b:Nat} {vs:Array Value} {T:TypeId} {fr:Nat×Nat} (h:w.heap[b]?=some (.cells vs T fr)) (i:Nat):w.cell? ⟨b,i,none⟩=vs[i]?:=by
 unfold World.cell?
 simp [h]
theorem Tryz.vals_in (n l Bp blk off cap:Nat) (xs:List (Int×Int×Int)) (J Jx:List (Int×Int×Int)→World→Prop) (o:Obj) (ho:LiesS o off xs) (hn:xs.length < 2 ^ 40)
 (hY:∀pre x W,J pre W→pre.length < xs.length→YieldAt Fence.wide (n - 1) Tryz.prog l #[vS x] W fun e W'=>(e=.returned (.bool true)∧J (pre++[x]) W'∧W'.heap[blk]?=W.heap[blk]?)∨(e=.returned (.bool false)∧Jx (pre++[x]) W'))
 (W:World) (hJ:AbidesFrom W.heap.size J) (hm:W.cell? ⟨Bp,0,none⟩=some (.slice (some ⟨blk,off,none⟩) xs.length cap)) (hb:W.heap[blk]?=some o) (h0:J [] W):
 CallsIn Fence.wide n Tryz.prog 222 #[.func (.yield l) #[] #[],.pointer (some ⟨Bp,0,none⟩)] W fun e W'=>(∃v,e=.returned v)∧(J xs W'∨∃pre,Jx pre W'):=by
 refine callsIn_of_wp Tryz.func222 rfl trivial ?_ rfl
 simp only [Tryz.ntmps222,List.size_toArray,List.length_cons,List.length_nil,Nat.reduceAdd,Nat.reduceSub,Array.replicate_succ,Array.replicate_zero,List.push_toArray,List.append_toArray,List.nil_append,List.cons_append]
 gi_wp2
 gi_loopw [7] (fun v7 wr=>∃i:Nat,v7=.int .i64 (i:Int)∧i≤xs.length∧J (xs.take i) wr∧wr.heap[blk]?=some o) (fun v7 _=>match v7 with | .int _ k=>xs.length - k.toNat | _=>0)
 case atStart=>exact⟨0,rfl,Nat.zero_le _,by simpa using h0,hb⟩
 case round=>
  obtain⟨i,rfl,hi,hJi,hbi⟩:=hrel
  rcases Nat.lt_or_ge i xs.length with hlt | hge
  · obtain⟨x,hx⟩:∃x,xs[i]?=some x:=⟨_,List.getElem?_eq_getElem hlt⟩
    obtain⟨c,T,fr,rfl,hc⟩:=ho
    obtain⟨k0,k1,k2⟩:=hc i x hx
    have c0:wr.cell? ⟨blk,off+i * 3,none⟩=some (.int .u16 x.1):=by rw [cellF hbi];exact k0
    have c1:wr.cell? ⟨blk,off+i * 3+1,none⟩=some (.int .u32 x.2.1):=by rw [cellF hbi];exact k1
    have c2:wr.cell? ⟨blk,off+i * 3+2,none⟩=some (.int .i64 x.2.2):=by rw [cellF hbi];exact k2
    have hJ2:J (xs.take i) (wr.alloc (.cells #[.int .u16 x.1,.int .u32 x.2.1,.int .i64 x.2.2] 157)):=hJ _ wr _ none hJi (World.grownBy_alloc _ _ _) (fun r e=>by cases e)
    have hb2:(wr.alloc (.cells #[.int .u16 x.1,.int .u32 x.2.1,.int .i64 x.2.2] 157)).heap[blk]?=some (.cells c T fr):=(Below.heap_alloc _ _ blk (Array.getElem?_eq_some_iff.1 hbi).1).trans hbi
    obtain⟨fn,tmps,assign,body,hy,hR⟩:=hY (xs.take i) x _ hJ2 (by rw [List.length_take];omega)
    gi_wp2
    refine⟨fun h=>by simp [Fence.wide]at h,hR.mono ?_⟩
    rintro e W3 (⟨rfl,hJ3,hk3⟩ | ⟨rfl,hJ3⟩)
    · gi_wp2
      go_roundw
      case rel=>exact⟨i+1,by simp,hlt,by rw [List.take_add_one,hx];exact hJ3,hk3.trans hb2⟩
      case measure=>simp;omega
    · gi_wp2
      refine bodyPost_ret (results_none rfl _ _ _) rfl ?_
      exact⟨⟨_,rfl⟩,.inr ⟨_,hJ3⟩⟩
  · gi_wp2
    go_end0
    exact⟨⟨_,rfl⟩,.inl (by rw [List.take_of_length_le hge]at hJi;exact hJi)⟩
end Go.Proofs
set_option linter.all false
set_option maxRecDepth 100000
set_option maxHeartbeats 4000000
namespace Go.Proofs
open Go Go.RowKit Go.Lib Go.Sort
def ApI (w:World) (Bs:Nat) (ss:List (Int×Int×Int)) (W:World):Prop:=
 ∃v,W.heap[Bs]?=some (.cells #[v] 56 (0,0))∧W.ownsRow w.heap.size 157 3 v ss.length (ss.flatMap encS)∧IntsW W v∧Below w.heap.size w W
def cS (x:Int×Int×Int):Array Value:=#[.int .u16 x.1,.int .u32 x.2.1,.int .i64 x.2.2]
theorem ApI.own {B:Nat} {w:World} {Bs:Nat} (hB:w.heap.size≤B):OwnFrom B (ApI w Bs):=by
 rintro s W W' row ⟨v,h1,h2,hI,h3⟩ hg hr
 have hc:∀r,row=some r→∃o:Obj,W.heap[r]?=some o∧o.isCells=false:=fun r e=>(hr r e).2
 suffices hne:v.ownBlock=none∨v.ownBlock≠row from
  ⟨v,(grownBy_keeps_cells hg hc h1 rfl).trans h1,h2.kept hg hne,hI.kept h2 hg hne,h3.grown hg h3.size (fun k e=>Nat.le_trans hB (hr k e).1)⟩
 rcases h2.2 with ⟨rfl,_⟩ | ⟨g,cap,cur,rfl,_,hgb,_⟩
 · exact .inl rfl
 · refine .inr fun e=>?_
   obtain⟨o,ho,hn⟩:=hc g (by simpa [Value.ownBlock] using e.symm)
   rw [hgb]at ho;cases ho;cases hn
def apAct (Bs:Nat) (sv:Value) (x:Int×Int×Int) (b:Nat):Act:=⟨#[.slice none 0 0,sv,.pointer (some ⟨Bs,0,none⟩),undef,.slice none 0 0,.pointer (some ⟨b,0,none⟩),sv,vS x,undef,undef,undef,undef,undef],[]⟩
def ApX (Bs:Nat) (sv:Value) (x:Int×Int×Int) (a:Act) (W:World):Prop:=∃b,a=apAct Bs sv x b∧W.heap[b]?=some (.cells (cS x) 157 (0,0))
theorem ApX.own {B Bs:Nat} {sv:Value} (x:Int×Int×Int) (a:Act):OwnFrom B (fun(_:Unit) W=>ApX Bs sv x a W):=by
 rintro s W W' row ⟨b,h1,h2⟩ hg hr
 exact⟨b,h1,(grownBy_keeps_cells hg (fun r e=>(hr r e).2) h2 rfl).trans h2⟩
theorem cells3_new (w:World) (x:Int×Int×Int):∀j u,(encS x)[j]?=some u→(w.alloc (.cells #[.int .u16 x.1,.int .u32 x.2.1,.int .i64 x.2.2] 157)).cell? ((⟨w.heap.size,0,none⟩:Addr).add j)=some u:=by
 intro j u hj
 have:(w.alloc (.cells #[.int .u16 x.1,.int .u32 x.2.1,.int .i64 x.2.2] 157)).heap[w.heap.size]?=some (.cells #[.int .u16 x.1,.int .u32 x.2.1,.int .i64 x.2.2] 157 (0,0)):=World.alloc_heap_new w _
 match j,hj with
 | 0,hj=>cases hj;exact(cellF this 0).trans rfl
 | 1,hj=>cases hj;exact(cellF this 1).trans rfl
 | 2,hj=>cases hj;exact(cellF this 2).trans rfl
theorem Tryz.appSeq_in (n:Nat) (h1:1≤n) (w:World) (Bp blk off cap:Nat) (xs:List (Int×Int×Int)) (o:Obj) (ho:LiesS o off xs) (hn:xs.length < 2 ^ 40) (hm:w.cell? ⟨Bp,0,none⟩=some (.slice (some ⟨blk,off,none⟩) xs.length cap)) (hBp:Bp < w.heap.size) (hb:w.heap[blk]?=some o):
 CallsIn Fence.wide n Tryz.prog 227 #[.slice none 0 0,.func (.func 222) #[] #[.pointer (some ⟨Bp,0,none⟩)]] w fun e w'=>∃v,e=.returned v∧w'.ownsRow w.heap.size 157 3 v xs.length (xs.flatMap encS)∧IntsW w' v∧Below w.heap.size w w':=by
 refine callsIn_of_wp_marks Tryz.func227 rfl trivial ?_ rfl
 simp only [Tryz.ntmps227,List.size_toArray,List.length_cons,List.length_nil,Nat.reduceAdd,Nat.reduceSub,Array.replicate_succ,Array.replicate_zero,List.push_toArray,List.append_toArray,List.nil_append,List.cons_append]
 gi_wp2
 obtain⟨sv,hsv⟩:∃sv,sv=(.func (.func 222) #[] #[.pointer (some ⟨Bp,0,none⟩)]:Value):=⟨_,rfl⟩
 have hblk:blk < w.heap.size:=(Array.getElem?_eq_some_iff.1 hb).1
 have hs1:(w.alloc (.cells #[.slice none 0 0] 56)).heap.size=w.heap.size+1:=by simp
 refine wpIn_rangeFunc_ownH (encs:=fun x=>#[vS x]) (Kp:=fun W W'=>W'.heap[blk]?=W.heap[blk]?) (S:=fun ys=>ys=xs) (Sp:=fun _=>True) (N:=xs.length) (w0:=w) rfl h1 (gf:=222) (lb:=#[.pointer (some ⟨Bp,0,none⟩)]) rfl trivial (enters_of Tryz.func222 (by kernel_rfl) rfl) ?hseq (fun h k=>k.trans h) (fun W l o o' hl _ _ _=>World.putObj_heap_other (by rw [hs1]at hl;omega)) ((Below.refl _ w).alloc (Nat.le_refl _) _) (fun x=>rfl) (ApI w w.heap.size) (fun _ _ _=>False) (ApI.own (by rw [hs1];omega)) (fun c s W W' row h _ _=>h) ⟨.slice none 0 0,World.alloc_heap_new w _,⟨rfl,.inl ⟨rfl,rfl⟩⟩,(fun g cur e=>by cases e),(Below.refl _ w).alloc (Nat.le_refl _) _⟩ (ApX w.heap.size sv) (fun x a'=>ApX.own x a') ?hassign ?hbody ?hdone (fun D c pre W _ _ h _=>h.elim)
 case hseq=>
  intro l J Jx W hW hJ hJx hY h0
  have hbW:W.heap[blk]?=some o:=(hW.block blk hblk).trans hb
  have hmW:W.cell? ⟨Bp,0,none⟩=some (.slice (some ⟨blk,off,none⟩) xs.length cap):=(hW.cell (p:=⟨Bp,0,none⟩) hBp).trans hm
  refine(Tryz.vals_in (n - 1) l Bp blk off cap xs J Jx o ho hn hY W hJ hmW hbW h0).mono ?_
  rintro e W' ⟨hv,h | ⟨pre,h⟩⟩
  · exact⟨hv,.inl ⟨xs,rfl,h⟩⟩
  · exact⟨hv,.inr ⟨pre,trivial,h⟩⟩
 case hassign=>
  intro l pre x W K hI hK
  simp only [List.zip_toArray,List.zip_cons_cons,List.zip_nil_right,List.size_toArray,List.length_cons,List.length_nil,Nat.reduceAdd,List.foldl_toArray',List.foldl_cons,List.foldl_nil,List.setIfInBounds_toArray,List.set_cons_succ,List.set_cons_zero]
  gi_wp2_with gi_round_op_a
  rw [←hsv]
  obtain⟨v,hv,hrow,hIn,hbe⟩:=hI
  refine hK _ _ ((KeepsOthers.alloc W _).from _) (Below.heap_alloc _ _ blk (by have:=hbe.size;omega)) ⟨v,(Below.heap_alloc _ _ _ (Array.getElem?_eq_some_iff.1 hv).1).trans hv,hrow.alloc _,hIn.kept hrow (World.grownBy_alloc W _ none) (by rcases hrow.2 with ⟨rfl,_⟩ | ⟨g,cap,cur,rfl,_⟩ <;> simp [Value.ownBlock]),hbe.alloc hbe.size _⟩ ⟨W.heap.size,rfl,World.alloc_heap_new W _⟩
 case hbody=>
  intro l pre x a' W hl _ hI hX hlen
  obtain⟨b,rfl,hb'⟩:=hX
  obtain⟨v,hv,hrow,hIn,hbe⟩:=hI
  have hsz:=hbe.size
  have hvl:w.heap.size < W.heap.size:=(Array.getElem?_eq_some_iff.1 hv).1
  have d0:W.cell? ⟨w.heap.size,0,none⟩=some v:=(cellF hv 0).trans rfl
  have d1:W.cell? ⟨b,0,none⟩=some (.int .u16 x.1):=(cellF hb' 0).trans rfl
  have d2:W.cell? ⟨b,1,none⟩=some (.int .u32 x.2.1):=(cellF hb' 1).trans rfl
  have d3:W.cell? ⟨b,2,none⟩=some (.int .i64 x.2.2):=(cellF hb' 2).trans rfl
  obtain⟨i0,hi,hz0,hz1,hz2⟩:=info_parts (P:=Tryz.prog) (e:=157) (z:=.agg #[.int .u16 0,.int .u32 0,.int .i64 0]) (size:=3) (bytes:=16) (by kernel_rfl)
  have hun:Tryz.prog.underlying 56=some (.slice 157):=by kernel_rfl
  clear hsv
  have ne_of:∀{j:Nat} {o:Obj},W.heap[j]?=some o→(∀cur,o≠.cells cur 157 (0,0))→some j≠v.ownBlock:=fun {j o} hj hno e=>by
   rcases hrow.2 with ⟨rfl,_⟩ | ⟨g,cap,cur,rfl,_,hgb,_⟩
   · simp [Value.ownBlock]at e
   · have:j=g:=by simpa [Value.ownBlock] using e
     subst this;rw [hj]at hgb;exact hno cur (Option.some.inj hgb)
  have hcell:∀(j:Nat) (o:Obj),v.ownBlock=some j→(W.alloc (.cells #[.int .u16 x.1,.int .u32 x.2.1,.int .i64 x.2.2] 157)).heap[j]?=some o→o.isCells=true:=fun j o e hj=>by
   rcases(hrow.alloc (.cells #[.int .u16 x.1,.int .u32 x.2.1,.int .i64 x.2.2] 157)).2 with ⟨rfl,_⟩ | ⟨g,cap,cur,rfl,_,hgb,_⟩
   · simp [Value.ownBlock]at e
   · have:g=j:=by simpa [Value.ownBlock] using e
     subst this;rw [hgb]at hj;cases hj;rfl
  have hnn:v.ownBlock=none∨v.ownBlock≠none:=by rcases hrow.2 with ⟨rfl,_⟩ | ⟨g,cap,cur,rfl,_⟩ <;> simp [Value.ownBlock]
  have hge:∀k,v.ownBlock=some k→w.heap.size≤k:=fun k e=>(hrow.lt k e).1
  unfold apAct
  gi_wp2_with (first
   | (gi_at_builtin;refine wpListIn_app3 _ rfl _ _ rfl w.heap.size hi hz0 hz1 hz2 _ _ _ rfl (hrow.alloc _) (hIn.kept hrow (World.grownBy_alloc W _ none) hnn) ⟨W.heap.size,0,none⟩ 1 x rfl (cells3_new _ _) (by omega) (by simp;omega) ?_;intro v' w3 hown' hg3 hIn3
      have hv3:w3.heap[w.heap.size]?=some (.cells #[v] 56 (0,0)):=(hg3.block _ (by simp;omega) (ne_of hv (fun cur e=>by cases e))).trans ((Below.heap_alloc _ _ _ hvl).trans hv)
      have e3:w3.cell? ⟨w.heap.size,0,none⟩=some v:=(cellF hv3 0).trans rfl
      have f3:w3.frozen? ⟨w.heap.size,0,none⟩=false:=by simp [World.frozen?,hv3]
      obtain⟨g',cap',rfl⟩:∃g' cap',v'=.slice (some ⟨g',0,none⟩) (pre.length+1) cap':=by
       rcases hown'.2 with ⟨_,h0⟩ | ⟨g',cap',_,h',_⟩
       · exact absurd h0 (by omega)
       · exact⟨g',cap',h'⟩
      go_frame)
   | gi_round_op_a)
  have hg4:w3.grownBy (w3.setCell ⟨w.heap.size,0,none⟩ (.slice (some ⟨g',0,none⟩) (pre.length+1) cap')) (some w.heap.size):=grownBy_setCell0_a _ _ _
  have hv4:=heap_setCell_box_a (.slice (some ⟨g',0,none⟩) (pre.length+1) cap') hv3
  have hne4:(Value.slice (some ⟨g',0,none⟩) (pre.length+1) cap').ownBlock=none∨(Value.slice (some ⟨g',0,none⟩) (pre.length+1) cap').ownBlock≠some w.heap.size:=(by
   rcases hown'.2 with ⟨h,_⟩ | ⟨g,cap,cur,h,_,hgb,_⟩
   · cases h
   · right;intro e;rw [h]at e;simp only [Value.ownBlock]at e;cases e;rw [hv3]at hgb;cases hgb)
  have hrow4:=hown'.kept hg4 hne4
  have hb3:RowKit.Below w.heap.size w w3:=(hbe.alloc hsz _).grown hg3 (by simp;omega) hge
  have hb4:RowKit.Below w.heap.size w (w3.setCell ⟨w.heap.size,0,none⟩ (.slice (some ⟨g',0,none⟩) (pre.length+1) cap')):=hb3.grown hg4 hb3.size (fun k e=>by cases e;exact Nat.le_refl _)
  refine⟨(((KeepsOthers.alloc W _).trans (KeepsOthers.of_grownBy hg3 hcell)).trans (KeepsOthers.setCell _ _ _)).from _,?_,_,hv4,?_,hIn3.kept hown' hg4 hne4,hb4⟩
  · exact(hb4.block blk hblk).trans (hbe.block blk hblk).symm
  · rw [List.length_append,List.flatMap_append,List.flatMap_cons,List.flatMap_nil,List.append_nil]
    exact hrow4
 case hdone=>
  rintro D ys W hD rfl hI hDel
  obtain⟨v,hv,hrow,hIn,hbe⟩:=hI
  have d0:W.cell? ⟨w.heap.size,0,none⟩=some v:=(cellF hv 0).trans rfl
  gi_wp2
  have hne:v.ownBlock=none∨v.ownBlock≠some D:=by
   rcases hrow.2 with ⟨rfl,_⟩ | ⟨g,cap,cur,rfl,_,hgb,_⟩
   · exact .inl rfl
   · right;intro e;simp only [Value.ownBlock]at e;cases e;rw [hDel]at hgb;cases hgb
  refine⟨by simp,.inl ⟨_,_,rfl,run_takeDeferred hDel,?_⟩⟩
  exact⟨_,results_tmp rfl _ _ _,v,rfl,hrow.kept (grownBy_putObj_a _ _ _) hne,hIn.kept hrow (grownBy_putObj_a _ _ _) hne,hbe.grown (grownBy_putObj_a _ _ _) hbe.size (fun k e=>by cases e;rw [hs1]at hD;omega)⟩
end Go.Proofs
set_option linter.all false
set_option maxRecDepth 100000
set_option maxHeartbeats 4000000
namespace Go.Proofs
open Go Go.RowKit Go.Lib Go.Sort
theorem Tryz.collectS (w:World) (Bp blk off cap:Nat) (xs:List (Int×Int×Int)) (o:Obj) (ho:LiesS o off xs) (hn:xs.length < 2 ^ 40) (hm:w.cell? ⟨Bp,0,none⟩=some (.slice (some ⟨blk,off,none⟩) xs.length cap)) (hBp:Bp < w.heap.size) (hb:w.heap[blk]?=some o):
 Calls Tryz.prog 220 #[.func (.func 222) #[] #[.pointer (some ⟨Bp,0,none⟩)]] w fun e w'=>∃v,e=.returned v∧w'.ownsRow w.heap.size 157 3 v xs.length (xs.flatMap encS)∧IntsW w' v∧RowKit.Below w.heap.size w w':=by
 have hc:=callsIn_wide.1 (Tryz.appSeq_in 5 (by omega) w Bp blk off cap xs o ho hn hm hBp hb)
 go_enter Tryz.func220,Tryz.ntmps220
 go_wp2_with (go_at_call 227;refine hc.mono ?_;rintro e w' ⟨v,rfl,h1,hI,h2⟩)
 go_ret
 exact⟨v,rfl,h1,hI,h2⟩
theorem fmS_get:∀(l:List (Int×Int×Int)) (i c:Nat) (hi:i < l.length),c < 3→(l.flatMap encS)[i * 3+c]?=(encS l[i])[c]?
 | x :: l,0,c,hi,hc=>by
  simp only [List.flatMap_cons,Nat.zero_mul,Nat.zero_add]
  rw [List.getElem?_append_left (by simp [encS];omega)];rfl
 | x :: l,i+1,c,hi,hc=>by
  simp only [List.flatMap_cons]
  rw [List.getElem?_append_right (by simp [encS];omega),show(i+1) * 3+c - (encS x).length=i * 3+c by simp [encS];omega,fmS_get l i c (by simpa using hi) hc]
  rfl
theorem fmS_at (xs:List (Int×Int×Int)) (j:Nat) (hj:j < xs.length * 3):(xs.flatMap encS)[j]?=some (flatK encS 3 xs.toArray)[j]! :=by
 rw [get_flatK _ _ _ _ (by simpa using hj)]
 have h1:j / 3 < xs.length:=by omega
 have h2:j % 3 < 3:=Nat.mod_lt _ (by omega)
 have h:=fmS_get xs (j / 3) (j % 3) h1 h2
 rw [show j / 3 * 3+j % 3=j by omega]at h
 rw [h,getElem!_pos xs.toArray (j / 3) (by simpa using h1)]
 have:xs.toArray[j / 3]'(by simpa using h1)=xs[j / 3]:=by simp
 rw [this]
 generalize xs[j / 3]=x
 rcases(show j % 3=0∨j % 3=1∨j % 3=2 by omega)with e | e | e <;> rw [e] <;> rfl
theorem Tryz.sortedFuncS (w:World) (Bp blk off cap:Nat) (xs:List (Int×Int×Int)) (o:Obj) (ho:LiesS o off xs) (h0:0 < xs.length) (hn:xs.length < 2 ^ 40) (hm:w.cell? ⟨Bp,0,none⟩=some (.slice (some ⟨blk,off,none⟩) xs.length cap)) (hBp:Bp < w.heap.size) (hb:w.heap[blk]?=some o):
 Calls Tryz.prog 203 #[.func (.func 222) #[] #[.pointer (some ⟨Bp,0,none⟩)],.func (.func 205) #[] #[]] w fun e w'=>∃g cap' cur x os W,e=.returned (.slice (some ⟨g,0,none⟩) xs.length cap')∧RowKit.Below w.heap.size w W∧w.heap.size≤g∧W.heap[g]?=some (.cells cur 157 (0,0))∧xs.length≤cap'∧cur.size=cap' * 3∧cur.toList.take (xs.length * 3)=xs.flatMap encS∧(∀u∈cur.toList,∃k n,u=.int k n)∧
  w'=sortWorldK encS 3 W g 0 x (pdq (ltOf cmpS) xs.toArray 0 xs.length (Lib.bitLen xs.length) true true) os:=by
 have hc:=Tryz.collectS w Bp blk off cap xs o ho hn hm hBp hb
 go_enter Tryz.func203,Tryz.ntmps203
 go_wp2_with (go_at_call 220;refine hc.mono ?_;rintro e W ⟨v,rfl,h1,hI,h2⟩)
 obtain⟨g,cap',cur,rfl,hg,hgb,r1,r2,r3,r4⟩:∃g cap' cur,v=.slice (some ⟨g,0,none⟩) xs.length cap'∧w.heap.size≤g∧W.heap[g]?=some (.cells cur 157 (0,0))∧xs.length≤cap'∧cap'≤maxLen∧cur.size=cap' * 3∧cur.toList.take (xs.length * 3)=xs.flatMap encS:=by
  rcases h1.2 with ⟨_,h⟩ | h
  · omega
  · exact h
 have hH:HoldsK encS 3 W g 0 xs.toArray:=fun j hj=>by
  rw [size_flatK,List.size_toArray]at hj
  have h3:=fmS_at xs j hj
  rw [←r4,List.getElem?_take,if_pos hj,Array.getElem?_toList]at h3
  refine⟨?_,by simp [World.frozen?,hgb]⟩
  rw [cellF hgb,Nat.zero_add];exact h3
 have hs:=YtlhlbamcgopiiaaGreatDoor.sort_calls g 0 cap' xs.toArray W hH (Array.getElem?_eq_some_iff.1 hgb).1 (by simp;omega)
 simp only [List.size_toArray]at hs
 go_wp2_with (go_at_call 221;refine hs.mono ?_;rintro e w' ⟨rfl,x,os,rfl⟩)
 go_ret
 exact⟨g,cap',cur,x,os,W,rfl,h2,hg,hgb,r1,r3,r4,hI g cur rfl hgb,rfl⟩
theorem Tryz.sortedS (w:World) (blk off cap:Nat) (xs:List (Int×Int×Int)) (o:Obj) (ho:LiesS o off xs) (h0:0 < xs.length) (hn:xs.length < 2 ^ 40) (hb:w.heap[blk]?=some o):
 Calls Tryz.prog 180 #[.slice (some ⟨blk,off,none⟩) xs.length cap] w fun e w'=>∃g cap' cur x os W,e=.returned (.slice (some ⟨g,0,none⟩) xs.length cap')∧RowKit.Below w.heap.size w W∧w.heap.size≤g∧W.heap[g]?=some (.cells cur 157 (0,0))∧xs.length≤cap'∧cur.size=cap' * 3∧cur.toList.take (xs.length * 3)=xs.flatMap encS∧(∀u∈cur.toList,∃k n,u=.int k n)∧
  w'=sortWorldK encS 3 W g 0 x (pdq (ltOf cmpS) xs.toArray 0 xs.length (Lib.bitLen xs.length) true true) os:=by
 have hblk:blk < w.heap.size:=(Array.getElem?_eq_some_iff.1 hb).1
 have hv:∀W,Calls Tryz.prog 204 #[.slice (some ⟨blk,off,none⟩) xs.length cap] W fun e W'=>e=.returned (.func (.func 222) #[] #[.pointer (some ⟨W.heap.size,0,none⟩)])∧W'=W.alloc (.cells #[.slice (some ⟨blk,off,none⟩) xs.length cap] 56):=fun W=>by
  go_enter Tryz.func204,Tryz.ntmps204
  go_wp2
  go_ret
  exact⟨rfl,rfl⟩
 go_enter Tryz.func180,Tryz.ntmps180
 go_wp2_with (first
  | (go_at_call 204;refine(hv _).mono ?_;rintro e W' ⟨rfl,rfl⟩)
  | (go_at_call 203;refine(Tryz.sortedFuncS _ w.heap.size blk off cap xs o ho h0 hn ((cellF (World.alloc_heap_new w _) 0).trans rfl) (by simp) ((Below.heap_alloc _ _ _ hblk).trans hb)).mono ?_;rintro e W' ⟨g,cap',cur,x,os,W,rfl,k1,k2,k3,k4,k5,k6,k7,rfl⟩))
 go_ret
 refine⟨g,cap',cur,x,os,W,rfl,((Below.refl _ w).alloc (Nat.le_refl _) _).trans (k1.mono (by simp)),by simp at k2;omega,k3,k4,k5,k6,k7,rfl⟩
end Go.Proofs
set_option linter.all false
set_option maxRecDepth 100000
set_option maxHeartbeats 4000000
namespace Go.Proofs.YtlhlbamcgopiiaaGreatDoor
open Go Go.RowKit Go.Proofs Go.Shelf Go.Sort
def sortedC (h:AHeap) (o off n:Nat):Res (AVal×AHeap):=
 match h.get o with
 | some (.row 3 _ vs)=>match sRow ((vs.drop off).take (n * 3))with
  | some l=>if l.length=n∧0 < n∧n < 2 ^ 40 then .ok (.sl h.next 0 n,h.push (.row 3 false ((srt l).flatMap aS)))else .err 311
  | none=>.err 312
 | _=>.err 313
def sortedP:Prim:=fun args h=>match args with
 | [.sl o off n]=>sortedC h o off n
 | [.slc o off n _]=>sortedC h o off n
 | _=>.err 314
theorem Rel.add {F:Fix} {ι:Inj} {h:AHeap} {w w':World} (r:Rel F ι h w) (fr:Fresh ι h.next (h.next+1)) (hk:Keep (fun _=>False) w w') (x:AObj) (e:Ent)
 (he:w.heap.size≤e.blk) (hx:ObjRel (upd ι h.next e) F.ρ w' e x):Rel F (upd ι h.next e) (h.push x) w'∧Step ι h w (upd ι h.next e) (h.push x) w':=by
 have hnone:ι h.next=none:=fr _ (Nat.le_refl _) (Nat.lt_succ_self _)
 have hs:=upd_sub e hnone
 have hold:∀k,k < w.heap.size→w'.heap[k]?=w.heap[k]?:=fun k hk'=>hk.block k hk' (fun h=>h)
 have hkeep:Keep (Own ι h) w w':=hk.mono fun j _ h=>h.elim
 have hobj:∀o y,(h.push x).get o=some y→(o=h.next∧y=x)∨(o≠h.next∧h.get o=some y):=by
  intro o y ho
  rw [AHeap.get_push]at ho
  split at ho
  · left;simp_all
  · right;exact⟨by assumption,ho⟩
 refine⟨⟨hkeep.below r.below (Nat.le_refl _) r.own_ge,?_,?_,?_⟩,⟨hs,?_,by simp,hkeep,?_⟩⟩
 · intro o y ho
   rcases hobj o y ho with ⟨rfl,rfl⟩ | ⟨hne,ho'⟩
   · exact⟨e,upd_self _ _ _,Nat.le_trans r.below.size he,hx⟩
   · obtain⟨f,h1,h2,h3⟩:=r.obj o y ho'
     exact⟨f,by simp [upd,hne,h1],h2,h3.mono hs (hold _ h3.lt)⟩
 · intro o o' y y' f f' h1 h2 h3 h4 h5
   rcases hobj o y h1 with ⟨rfl,rfl⟩ | ⟨hne,h1'⟩ <;> rcases hobj o' y' h2 with ⟨h6,h7⟩ | ⟨hne',h2'⟩
   · exact h6.symm
   · exfalso
     obtain⟨g,g1,_,g3⟩:=r.obj o' y' h2'
     simp [upd,hne',g1]at h4;subst h4
     simp [upd]at h3;subst h3
     have:=g3.lt;omega
   · exfalso
     obtain⟨g,g1,_,g3⟩:=r.obj o y h1'
     subst h6
     simp [upd,hne,g1]at h3;subst h3
     simp [upd]at h4;subst h4
     have:=g3.lt;omega
   · simp [upd,hne]at h3
     simp [upd,hne']at h4
     exact r.inj o o' y y' f f' h1' h2' h3 h4 h5
 · intro o y ho
   rcases hobj o y ho with ⟨rfl,rfl⟩ | ⟨_,ho'⟩
   · simp
   · have:=r.lt o y ho';simp;omega
 · intro o
   by_cases ho:o=h.next
   · subst ho;right;right;simp
   · right;left;simp [upd,ho]
 · rintro b ⟨o,y,f,h1,h2,rfl⟩
   rcases hobj o y h1 with ⟨rfl,rfl⟩ | ⟨hne,h1'⟩
   · right;simp [upd]at h2;subst h2;exact he
   · left;exact⟨o,y,f,h1',by simpa [upd,hne] using h2,rfl⟩
theorem sortedC_ok (F:Fix) (hP:F.c.P=Tryz.prog) (ok:F.Ok) {h h':AHeap} {o off n:Nat} {v:AVal} (hq:sortedC h o off n=.ok (v,h')):h.next≤h'.next∧0 < n∧∀ι w e cap,Rel F ι h w→ι o=some e→Fresh ι h.next h'.next→CallTo F.c.P 180 #[.slice (some ⟨e.blk,e.base+off,none⟩) n cap] w (Out F ι h w v h'):=by
 unfold sortedC at hq
 split at hq
 rotate_left;· cases hq
 rename_i fz vs hgo
 split at hq
 rotate_left;· cases hq
 rename_i l hl
 split at hq
 rotate_left;· cases hq
 rename_i hc
 obtain⟨hln,h0,hn⟩:=hc
 cases hq
 refine⟨by simp,h0,fun ι w e cap r he hfr=>.inr ⟨?_,?_⟩⟩
 · rw [hP];exact enters_of Tryz.func180 (by kernel_rfl) rfl _ _
 obtain⟨e',g1,g2,c,T,fr,b1,b2,b3,b4,b5,b6,b7,b8⟩:=r.obj _ _ hgo
 rw [he]at g1;cases g1
 have hvl:=sRow_ok hl
 have hat:∀j,j < n * 3→vs[off+j]?=(l.flatMap aS)[j]?:=fun j hj=>by
  rw [←hvl,List.getElem?_take,if_pos hj,List.getElem?_drop]
 have hlies:LiesS (.cells c T fr) (e.base+off) l:=by
  refine⟨c,T,fr,rfl,fun i x hx=>?_⟩
  obtain⟨hi,hxe⟩:=List.getElem?_eq_some_iff.1 hx
  have key:∀k a u,k < 3→(aS x)[k]?=some a→(∀v,VRel ι F.ρ a v→v=u)→c[e.base+off+i * 3+k]?=some u:=fun k a u hk ha hu=>by
   have h1:=hat (i * 3+k) (by omega)
   rw [fm_get l i k hi hk,hxe,ha]at h1
   obtain⟨w1,w2,w3⟩:=b8 _ _ h1
   rw [hu w1 w3]at w2
   rw [show e.base+off+i * 3+k=e.base+(off+(i * 3+k)) by omega]
   exact w2
  exact⟨key 0 _ _ (by omega) rfl (fun v hv=>by simpa [VRel] using hv),key 1 _ _ (by omega) rfl (fun v hv=>by simpa [VRel] using hv),key 2 _ _ (by omega) rfl (fun v hv=>by simpa [VRel] using hv)⟩
 have hcall:=Tryz.sortedS w e.blk (e.base+off) cap l (.cells c T fr) hlies (by omega) (by omega) b1
 rw [hln]at hcall
 rw [hP]
 refine hcall.mono ?_
 rintro e1 w' ⟨g,cap',cur,x,os,W,rfl,k1,k2,k3,k4,k5,k6,k7,rfl⟩
 obtain⟨d',hd'⟩:∃d',d'=pdq (ltOf cmpS) l.toArray 0 n (Lib.bitLen n) true true:=⟨_,rfl⟩
 have hsrt:srt l=d'.toList:=by unfold srt;rw [hln,hd']
 have hds':d'.size=n:=by rw [←Array.length_toList,←hsrt,srt_len,hln]
 rw [←hd',hsrt]
 obtain⟨s1,s2⟩:=sort_heap (n:=x) (x:=0) (d:=d') (os:=os) k3
 have hkeep:Keep (fun _=>False) w (sortWorldK encS 3 W g 0 x d' os):=by
  refine⟨s2.os.trans k1.os,s2.tape.trans k1.tape,s2.output.trans k1.output,Nat.le_trans k1.size s2.size,fun k hk _=>?_⟩
  exact(s2.block k (Nat.lt_of_lt_of_le hk k1.size) (fun e=>by omega)).trans (k1.block k hk)
 have hobj:ObjRel (upd ι h.next ⟨g,0,cap' * 3,3⟩) F.ρ (sortWorldK encS 3 W g 0 x d' os) ⟨g,0,cap' * 3,3⟩ (.row 3 false (d'.toList.flatMap aS)):=by
  refine⟨_,157,(0,0),s1,rfl,by rw [pc_size,k5,Nat.zero_add],?_,fun _=>rfl,.inl rfl,?_,?_⟩
  · rw [fm_len,Array.length_toList,hds'];exact Nat.mul_le_mul_right _ k4
  · intro v hv
    obtain⟨k,hk⟩:=List.getElem?_of_mem hv
    rw [Array.getElem?_toList,pc_get,Option.map_eq_some_iff]at hk
    obtain⟨y,hy,hk⟩:=hk
    split at hk
    · rename_i hr
      rw [size_flatK]at hr
      obtain⟨a,m,hkm⟩:=flat_int d' (k - 0) (by omega)
      rw [hkm]at hk;rw [←hk];rfl
    · rw [←hk]
      obtain⟨a,m,rfl⟩:=k7 y (List.mem_of_getElem? (by rw [Array.getElem?_toList];exact hy))
      rfl
  · intro j a hj
    have hjn:j < n * 3:=by
     have:=(List.getElem?_eq_some_iff.1 hj).1
     rw [fm_len,Array.length_toList,hds']at this;exact this
    rw [fm_at d' j (by rw [hds'];exact hjn)]at hj
    cases hj
    obtain⟨k,m,hkm⟩:=flat_int d' j (by rw [hds'];exact hjn)
    refine⟨(flatK encS 3 d')[j]!,?_,?_⟩
    · rw [pc_get,Nat.zero_add]
      have:j < cur.size:=by omega
      rw [Array.getElem?_eq_getElem this,Option.map_some,if_pos ⟨by omega,by rw [size_flatK,hds'];omega⟩,Nat.sub_zero]
    · rw [hkm];simp [conv,VRel]
 obtain⟨r1,r2⟩:=r.add (hfr.left (by simp)) hkeep (.row 3 false (d'.toList.flatMap aS)) ⟨g,0,cap' * 3,3⟩ k2 hobj
 exact⟨_,⟨_,0,cap',upd_self _ _ _,rfl,rfl,k4,.inl rfl⟩,r1,r2⟩
theorem sortedP_sound (F:Fix) (hP:F.c.P=Tryz.prog) (ok:F.Ok):∀args h v h',sortedP args h=.ok (v,h')→h.next≤h'.next∧
 ∀ι w (av:Array Value),Rel F ι h w→VRels ι F.ρ args av.toList→Fresh ι h.next h'.next→CallTo F.c.P 180 av w (Out F ι h w v h'):=by
 intro args h v h' hq
 unfold sortedP at hq
 split at hq
 · rename_i o off n
   obtain⟨k1,k2,k3⟩:=sortedC_ok F hP ok hq
   refine⟨k1,fun ι w av r ha hfr=>?_⟩
   obtain⟨v1,_,hav,⟨e,x,cap,he,rfl,h1,h2,h3⟩,h6⟩:=ha
   simp only [VRels]at h6
   subst h6
   obtain rfl:av=#[_]:=Array.toList_inj.1 hav
   rw [h3.resolve_right (by omega)]
   exact k3 ι w e cap r he hfr
 · rename_i o off n cap
   obtain⟨k1,k2,k3⟩:=sortedC_ok F hP ok hq
   refine⟨k1,fun ι w av r ha hfr=>?_⟩
   obtain⟨v1,_,hav,⟨e,x,he,rfl,h2,h3⟩,h6⟩:=ha
   simp only [VRels]at h6
   subst h6
   obtain rfl:av=#[_]:=Array.toList_inj.1 hav
   rw [h3.resolve_right (by omega)]
   exact k3 ι w e cap r he hfr
 · cases hq
end Go.Proofs.YtlhlbamcgopiiaaGreatDoor
