/-
  A part of the proof of PlanOps, over the seat YtlhlbamcgopiiaaGreatDoor: for every input the law returns true, and the input reads as it did.
-/
import Derived.Test.YtlhlbamcgopiiaaGreatDoorGh
import Derived.Test.YtlhlbamcgopiiaaGreatDoorRows
import Derived.ProofKit
import Derived.Handed
import Derived.LaidLaws
import Derived.MakeChecks
set_option linter.all false
set_option linter.all false
set_option maxRecDepth 1000000
set_option maxHeartbeats 4000000
namespace Go.Proofs.YtlhlbamcgopiiaaGreatDoor
open Go Go.RowKit Go.Proofs Go.ChangeShapes Go.WideShapes Go.ChangeAt
theorem own:ownKnob Tryz.prog.godebug=none:=by kernel_rfl
theorem laidOut:laidOutB Tryz.prog=true:=by kernel_rfl
abbrev laidL:List (String×DataW Unit):=[("copyist/ident.root",YtlhlbamcgopiiaaGreatDoor.Rows.laid_copyist_ident_root)]
theorem laid_plain (W:World):laidMetH Tryz.prog laidL W=laidMet Tryz.prog laidL W:=by unfold laidMetH;rfl
theorem root_of {W:World} (h:laidMetH Tryz.prog laidL W):roW W 0=some [.int .u16 0,.int .u32 0]:=by
 rw [laid_plain]at h
 obtain⟨ps,⟨g,t,cs,fuel,p,q,e1,e2,e3,e4,e5,e6⟩,_,_⟩:=h
 have hg:Tryz.prog.globalNamed "copyist/ident.root"=some 0:=by kernel_rfl
 rw [hg]at e1
 cases e1
 have ht:(Tryz.prog.globals[(0:Nat)]?).map (·.type)=some 55:=by kernel_rfl
 rw [ht]at e2
 cases e2
 obtain⟨xs,n,_,hx,hl,hxl,hp⟩:=DataW.trod_struct Tryz.underlying55 e4
 rw [co55]at hl
 obtain⟨a,b,hab⟩:∃a b,cs.toList=[a,b]:=by
  match cs.toList,hl with
  | [a,b],_=>exact⟨a,b,rfl⟩
 rw [hab]at hp
 have h0:=hp 0 { name:="R",type:=47,offset:=0,embedded:=false,tag:="",pkgPath:="",byteOffset:=0 } rfl
 have h1:=hp 1 { name:="N",type:=41,offset:=1,embedded:=false,tag:="",pkgPath:="",byteOffset:=4 } rfl
 simp only [co47,co41,List.drop_zero,List.drop_succ_cons,List.take_succ_cons,List.take_zero]at h0 h1
 have hxs:xs.length=2:=by rw [hxl];rfl
 have hx0:xs[0]?=some (xs[0]'(by omega)):=List.getElem?_eq_getElem _
 have hx1:xs[1]?=some (xs[1]'(by omega)):=List.getElem?_eq_getElem _
 rw [hx0]at h0
 rw [hx1]at h1
 obtain⟨n0,k0,k1,_⟩:=DataW.trod_int Tryz.underlying47 h0
 obtain⟨n1,l0,l1,_⟩:=DataW.trod_int Tryz.underlying41 h1
 have hd:xs.map (·.1)=[.lit (.int .u16 0),.lit (.int .u32 0)]:=by
  have:=congrArg (·.1) hx
  simp only [YtlhlbamcgopiiaaGreatDoor.Rows.laid_copyist_ident_root,DataW.agg.injEq]at this
  exact this.symm
 have hd0:=congrArg (·[0]?) hd
 have hd1:=congrArg (·[1]?) hd
 simp only [List.getElem?_map,hx0,hx1,k1,l1,Option.map_some,List.getElem?_cons_zero,List.getElem?_cons_succ,Option.some.injEq,DataW.lit.injEq,Lit.int.injEq,true_and]at hd0 hd1
 have ha:a=.int .u16 0:=by have:=List.cons.inj k0;rw [this.1,hd0]
 have hb:b=.int .u32 0:=by have:=List.cons.inj l0;rw [this.1,hd1]
 unfold World.var? at e3
 rw [hg]at e3
 simp only [Option.bind_some]at e3
 unfold roW
 have hpl:placeW (0:Nat)=(0,0):=by
  unfold placeW roBase
  rw [if_pos (by decide)]
 rw [hpl]
 split at e3
 · rename_i c _ _ hh
   cases e3
   simp only [hh,List.drop_zero]
   rw [hab,ha,hb]
   rfl
 · cases e3
noncomputable def w0 (os:Os):World:=World.holding Tryz.prog os ⟨#[],#[],[]⟩
theorem w0_met (os:Os) (args:Array Value):laidMetH Tryz.prog laidL ((w0 os).forCall (fun _ _=>0) ⟨#[],args,[]⟩).memory:=by
 rw [laid_plain]
 exact laidMet_of_run (ps:=[.cell 0 0,.cell 0 1]) 8 (by kernel_rfl) (by kernel_rfl) (by kernel_rfl)
end Go.Proofs.YtlhlbamcgopiiaaGreatDoor
set_option linter.all false
set_option maxRecDepth 100000
set_option maxHeartbeats 4000000
namespace Go.Proofs.YtlhlbamcgopiiaaGreatDoor
open Go Go.RowKit Go.Proofs
abbrev Str:=List UInt8
structure Wk where
 tr:Int
 ti:Int
 sr:Int
 si:Int
def Wk.one:Wk:=⟨1,0,0,0⟩
def Wk.then_ (w v:Wk):Wk:=⟨v.tr * w.tr - v.ti * w.ti,v.tr * w.ti+v.ti * w.tr,v.tr * w.sr - v.ti * w.si+v.sr,v.tr * w.si+v.ti * w.sr+v.si⟩
structure Wk.Ok (w:Wk) (n:Nat):Prop where
 unit:(w.tr=1∧w.ti=0)∨(w.tr=-1∧w.ti=0)∨(w.tr=0∧w.ti=1)∨(w.tr=0∧w.ti=-1)
 sr:w.sr.natAbs≤8 * n
 si:w.si.natAbs≤8 * n
theorem Wk.Ok.then_ {w v:Wk} {n m:Nat} (hw:w.Ok n) (hv:v.Ok m):(w.then_ v).Ok (n+m):=by
 obtain⟨u1,r1,i1⟩:=hw
 obtain⟨u2,r2,i2⟩:=hv
 obtain⟨a,b,c,d⟩:=w
 obtain⟨e,f,g,k⟩:=v
 simp only at u1 r1 i1 u2 r2 i2
 unfold Wk.then_
 refine⟨?_,?_,?_⟩ <;> rcases u2 with ⟨rfl,rfl⟩ | ⟨rfl,rfl⟩ | ⟨rfl,rfl⟩ | ⟨rfl,rfl⟩ <;> simp only [] <;> omega
theorem Wk.then_assoc (a b c:Wk):(a.then_ b).then_ c=a.then_ (b.then_ c):=by
 obtain⟨a1,a2,a3,a4⟩:=a
 obtain⟨b1,b2,b3,b4⟩:=b
 obtain⟨c1,c2,c3,c4⟩:=c
 simp only [Wk.then_,Wk.mk.injEq]
 refine⟨?_,?_,?_,?_⟩ <;> simp only [Int.mul_sub,Int.mul_add,Int.sub_mul,Int.add_mul,Int.mul_assoc] <;> omega
theorem Wk.one_then (a:Wk):Wk.one.then_ a=a:=by
 obtain⟨a1,a2,a3,a4⟩:=a
 simp [Wk.one,Wk.then_]
theorem Wk.then_one (a:Wk):a.then_ Wk.one=a:=by
 obtain⟨a1,a2,a3,a4⟩:=a
 simp [Wk.one,Wk.then_]
def tX:Nat→Int
 | 0=>1
 | 2=>-1
 | _=>0
def tY:Nat→Int
 | 1=>1
 | 3=>-1
 | _=>0
def tA:Nat→Nat
 | 0=>4607182418800017408
 | 2=>13830554455654793216
 | _=>0
def tB:Nat→Nat
 | 1=>4607182418800017408
 | 3=>13830554455654793216
 | _=>0
theorem lt4 {n:Nat} (h:n < 4):n=0∨n=1∨n=2∨n=3:=by omega
theorem wh_c0:Wh 0 0:=by
 have:FloatKind.f64.nearest 0=0:=by decide +kernel
 have h:=nearest_wh (n:=0) (by decide)
 rw [this]at h;exact h
theorem wh_c1:Wh 4607182418800017408 1:=by
 have:FloatKind.f64.nearest 1=4607182418800017408:=by decide +kernel
 rw [←this];exact nearest_wh (by decide)
theorem wh_cm:Wh 13830554455654793216 (-1):=by
 have:FloatKind.f64.nearest (-1)=13830554455654793216:=by decide +kernel
 rw [←this];exact nearest_wh (by decide)
theorem tA_wh {n:Nat} (h:n < 4):Wh (tA n) (tX n):=by
 rcases lt4 h with rfl | rfl | rfl | rfl
 · exact wh_c1
 · exact wh_c0
 · exact wh_cm
 · exact wh_c0
theorem tB_wh {n:Nat} (h:n < 4):Wh (tB n) (tY n):=by
 rcases lt4 h with rfl | rfl | rfl | rfl
 · exact wh_c0
 · exact wh_c1
 · exact wh_c0
 · exact wh_cm
def Wk.byte (b:UInt8):Wk:=⟨tX (b.toNat % 4),tY (b.toNat % 4),(b.toNat / 4 % 8+1:Nat),(b.toNat / 32+1:Nat)⟩
theorem Wk.byte_ok (b:UInt8):(Wk.byte b).Ok 1:=by
 have hb:=b.toNat_lt
 refine⟨?_,?_,?_⟩
 · rcases lt4 (n:=b.toNat % 4) (by omega)with h | h | h | h <;> simp [Wk.byte,h,tX,tY]
 · show Int.natAbs ((b.toNat / 4 % 8+1:Nat):Int)≤8;omega
 · show Int.natAbs ((b.toNat / 32+1:Nat):Int)≤8;omega
def Wk.text (s:Str):Wk:=s.foldl (fun w b=>w.then_ (Wk.byte b)) Wk.one
theorem Wk.fold_then (s:Str):∀w:Wk,s.foldl (fun w b=>w.then_ (Wk.byte b)) w=w.then_ (Wk.text s):=by
 unfold Wk.text
 induction s with
 | nil=>intro w;rw [List.foldl_nil,List.foldl_nil,Wk.then_one]
 | cons b s ih=>intro w;rw [List.foldl_cons,List.foldl_cons,ih,ih (Wk.one.then_ _),Wk.one_then,Wk.then_assoc]
theorem Wk.text_append (s t:Str):Wk.text (s++t)=(Wk.text s).then_ (Wk.text t):=by
 rw [Wk.text,List.foldl_append,Wk.fold_then];rfl
theorem Wk.text_ok (s:Str):(Wk.text s).Ok s.length:=by
 have:∀(s:Str) (w:Wk) (n:Nat),w.Ok n→(s.foldl (fun w b=>w.then_ (Wk.byte b)) w).Ok (n+s.length):=by
  intro s
  induction s with
  | nil=>intro w n h;exact h
  | cons b s ih=>
   intro w n h
   have:=ih _ _ (h.then_ (Wk.byte_ok b))
   rw [List.foldl_cons,List.length_cons,show n+(s.length+1)=n+1+s.length by omega];exact this
 have h:=this s Wk.one 0 ⟨.inl ⟨rfl,rfl⟩,by decide,by decide⟩
 rw [Nat.zero_add]at h;exact h
structure WkR (a b c d:Nat) (w:Wk):Prop where
 tr:Wh a w.tr
 ti:Wh b w.ti
 sr:Wh c w.sr
 si:Wh d w.si
theorem WkR.then_ {a b c d e f g k:Nat} {w v:Wk} {n m:Nat} (hw:WkR a b c d w) (hv:WkR e f g k v) (ow:w.Ok n) (ov:v.Ok m) (hn:n+m < 2 ^ 40):
 ∃r1 i1 r2 i2 r3 i3,cplxBin .mul .f64 e f a b=.ok (.cplx .f64 r1 i1)∧cplxBin .mul .f64 e f c d=.ok (.cplx .f64 r2 i2)∧cplxBin .add .f64 r2 i2 g k=.ok (.cplx .f64 r3 i3)∧WkR r1 i1 r3 i3 (w.then_ v):=by
 obtain⟨u1,s1,s2⟩:=ow
 obtain⟨u2,s3,s4⟩:=ov
 have bd:∀x y:Int,(x=0∨x=1∨x=-1)→y.natAbs≤2 ^ 50→(x * y).natAbs < 2 ^ 52:=by
  rintro x y (rfl | rfl | rfl) hy <;> omega
 have ur:v.tr=0∨v.tr=1∨v.tr=-1:=by omega
 have ui:v.ti=0∨v.ti=1∨v.ti=-1:=by omega
 have br:w.tr.natAbs≤2 ^ 50:=by omega
 have bi:w.ti.natAbs≤2 ^ 50:=by omega
 have b3:w.sr.natAbs≤2 ^ 50:=by omega
 have b4:w.si.natAbs≤2 ^ 50:=by omega
 obtain⟨r1,i1,e1,w1,w2⟩:=cplx_mul hv.tr hv.ti hw.tr hw.ti (bd _ _ ur br) (bd _ _ ui bi) (bd _ _ ur bi) (bd _ _ ui br)
 obtain⟨r2,i2,e2,w3,w4⟩:=cplx_mul hv.tr hv.ti hw.sr hw.si (bd _ _ ur b3) (bd _ _ ui b4) (bd _ _ ur b4) (bd _ _ ui b3)
 have hok:=Wk.Ok.then_ ⟨u1,s1,s2⟩ ⟨u2,s3,s4⟩
 obtain⟨r3,i3,e3,w5,w6⟩:=cplx_add w3 w4 hv.sr hv.si (by have:=hok.sr;unfold Wk.then_ at this;simp only at this;omega) (by have:=hok.si;unfold Wk.then_ at this;simp only at this;omega)
 exact⟨r1,i1,r2,i2,r3,i3,e1,e2,e3,w1,w2,w5,w6⟩
section
variable {ro:Nat→Option (List AVal)}
theorem then_ev {h:AHeap} {a b c d e f g k:Nat} {w v:Wk} {n m:Nat} {sv:AVal} (hs:Sl (cfgR ro) h 2 sv [[.cplx .f64 e f,.cplx .f64 g k]]) (hw:WkR a b c d w) (hv:WkR e f g k v) (ow:w.Ok n) (ov:v.Ok m) (hn:n+m < 2 ^ 40)
 {Q:AVal→AHeap→Prop} (hq:∀a b c d,WkR a b c d (w.then_ v)→Q (.agg [.cplx .f64 a b,.cplx .f64 c d]) h):Ev (cfgR ro) 267 [.agg [.cplx .f64 a b,.cplx .f64 c d],sv] h Q:=by
 refine Ev.wp rfl rfl Tryz.func267 rfl ?_
 obtain⟨r1,i1,r2,i2,r3,i3,e1,e2,e3,hr⟩:=hw.then_ hv ow ov hn
 have hL:lenR (cfgR ro) h 343 sv=.ok (.int .i64 1):=by have:=hs.lenR (t:=343) un343;simpa using this
 have hX:indexAddrR Tryz.prog 343 sv (.int .i64 0)=.ok (elp sv 2 0):=hs.idx (i:=0) un343 sz104 (by simp)
 have hA:loadR (cfgR ro) h 104 (elp sv 2 0)=.ok (.agg [.cplx .f64 e f,.cplx .f64 g k]):=hs.load (by rfl) ag104 sz104
 have w1:IntKind.i64.wrap 1=1:=by decide
 simp -implicitDefEqProofs [Tryz.f267,hL]
 obtain⟨I,hI⟩:∃I:Nat→List AVal→AHeap→Prop,I=fun m env h'=>h'=h∧((m=1∧env=(.dead :: .dead :: .cell [.cplx .f64 a b,.cplx .f64 c d] :: .dead :: .cell [.cplx .f64 0 0,.cplx .f64 0 0] :: .dead :: .dead :: sv :: .int .i64 1 :: .int .i64 0 :: .dead :: .dead :: .dead :: .dead :: .dead :: .dead :: .dead :: .dead :: .dead :: .dead :: .dead :: .dead :: .dead :: .dead :: .dead :: .dead :: .dead :: .dead :: .dead :: []))∨
  (m=0∧env=(.dead :: .dead :: .cell [.cplx .f64 r1 i1,.cplx .f64 r3 i3] :: .dead :: .cell [.cplx .f64 0 0,.cplx .f64 0 0] :: .dead :: .dead :: sv :: .int .i64 1 :: .int .i64 1 :: .dead :: .dead :: .dead :: .dead :: .dead :: .dead :: .dead :: .dead :: .dead :: .dead :: .dead :: .dead :: .dead :: .dead :: .dead :: .dead :: .dead :: .dead :: .dead :: []))):=⟨_,rfl⟩
 refine loop_of I ?_ 1 (by rw [hI];exact⟨rfl,.inl ⟨rfl,rfl⟩⟩)
 intro m env h' hi
 rw [hI]at hi
 obtain⟨rfl,⟨rfl,rfl⟩ | ⟨rfl,rfl⟩⟩:=hi
 · simp -implicitDefEqProofs [hX,hA,e1,e2,e3,w1]
   exact .mk (m:=0) (by omega) (by rw [hI];exact⟨rfl,.inr ⟨rfl,rfl⟩⟩)
 · simp -implicitDefEqProofs
   exact hq _ _ _ _ hr
end
end Go.Proofs.YtlhlbamcgopiiaaGreatDoor
set_option linter.all false
set_option maxRecDepth 100000
set_option maxHeartbeats 4000000
namespace Go.Proofs.YtlhlbamcgopiiaaGreatDoor
open Go Go.RowKit Go.Proofs
theorem and3:∀x:Nat,x < 256→iand .i64 (x:Int) 3=((x % 4:Nat):Int):=by decide +kernel
theorem shr2:∀x:Nat,x < 256→ishr .u8 (x:Int) 2=((x / 4:Nat):Int):=by decide +kernel
theorem shr5:∀x:Nat,x < 256→ishr .u8 (x:Int) 5=((x / 32:Nat):Int):=by decide +kernel
theorem and7:∀x:Nat,x < 64→iand .u8 (x:Int) 7=((x % 8:Nat):Int):=by decide +kernel
section
variable {ro:Nat→Option (List AVal)}
theorem gturn_ev {h:AHeap} {n:Nat} (hn:n < 256) {Q:AVal→AHeap→Prop} (hq:Q (.cplx .f64 (tA (n % 4)) (tB (n % 4))) h):Ev (cfgR ro) 269 [.int .i64 n] h Q:=by
 refine Ev.wp rfl rfl Tryz.func269 rfl ?_
 have e:=and3 n hn
 obtain⟨m,hm⟩:∃m,m=n % 4:=⟨_,rfl⟩
 rw [←hm]at e hq
 rcases lt4 (n:=m) (by omega)with rfl | rfl | rfl | rfl <;> (simp -implicitDefEqProofs [Tryz.f269,e];exact hq)
theorem gof_ev {h:AHeap} {x y:Int} {Q:AVal→AHeap→Prop} (hq:Q (.cplx .f64 (FloatKind.f64.nearest x) (FloatKind.f64.nearest y)) h):Ev (cfgR ro) 270 [.int .i64 x,.int .i64 y] h Q:=by
 refine Ev.wp rfl rfl Tryz.func270 rfl ?_
 simp -implicitDefEqProofs [Tryz.f270]
 exact hq
theorem stay_ev {h:AHeap} {Q:AVal→AHeap→Prop} (hq:Q (.agg [.cplx .f64 4607182418800017408 0,.cplx .f64 0 0]) h):Ev (cfgR ro) 144 [] h Q:=by
 refine Ev.wp rfl rfl Tryz.func144 rfl ?_
 simp -implicitDefEqProofs [Tryz.f144]
 exact hq
theorem wof_ev {h:AHeap} {b:UInt8} {Q:AVal→AHeap→Prop} (hq:∀x y z t,WkR x y z t (Wk.byte b)→Q (.agg [.cplx .f64 x y,.cplx .f64 z t]) h):Ev (cfgR ro) 268 [.int .u8 b.toNat] h Q:=by
 refine Ev.wp rfl rfl Tryz.func268 rfl ?_
 have hb:=b.toNat_lt
 have hq:=hq _ _ _ _ ⟨tA_wh (Nat.mod_lt b.toNat (by decide)),tB_wh (Nat.mod_lt b.toNat (by decide)),nearest_wh (n:=((b.toNat / 4 % 8+1:Nat):Int)) (by omega),nearest_wh (n:=((b.toNat / 32+1:Nat):Int)) (by omega)⟩
 obtain⟨n,hn⟩:∃n,n=b.toNat:=⟨_,rfl⟩
 rw [←hn]at hb hq ⊢
 have c1:IntKind.i64.wrap (n:Int)=(n:Int):=w64 (by omega) (by omega)
 have e2:=shr2 n (by omega)
 have e5:=shr5 n (by omega)
 obtain⟨p,hp⟩:∃p,p=n / 4:=⟨_,rfl⟩
 obtain⟨q,hqq⟩:∃q,q=n / 32:=⟨_,rfl⟩
 rw [←hp]at e2
 rw [←hqq]at e5
 have e7:=and7 p (by omega)
 obtain⟨r,hr⟩:∃r,r=p % 8:=⟨_,rfl⟩
 rw [←hr]at e7
 have c2:IntKind.i64.wrap (r:Int)=(r:Int):=w64 (by omega) (by omega)
 have c3:IntKind.i64.wrap (q:Int)=(q:Int):=w64 (by omega) (by omega)
 have c4:IntKind.i64.wrap ((r:Int)+1)=((r+1:Nat):Int):=by rw [w64 (by omega) (by omega)];omega
 have c5:IntKind.i64.wrap ((q:Int)+1)=((q+1:Nat):Int):=by rw [w64 (by omega) (by omega)];omega
 rw [←hp,←hr,←hqq]at hq
 obtain⟨r1,hr1⟩:∃r1,r1=r+1:=⟨_,rfl⟩
 obtain⟨q1,hq1⟩:∃q1,q1=q+1:=⟨_,rfl⟩
 rw [←hr1]at c4 hq
 rw [←hq1]at c5 hq
 simp -implicitDefEqProofs [Tryz.f268,c1]
 refine gturn_ev (by omega) ?_
 simp -implicitDefEqProofs [e2,e5,e7,c2,c3,c4,c5]
 refine gof_ev ?_
 simp -implicitDefEqProofs
 exact hq
theorem wtext_ev {h:AHeap} {s:Str} (hs:s.length < 2 ^ 39) {Q:AVal→AHeap→Prop} (hq:∀x y z t h',Old h h'→WkR x y z t (Wk.text s)→Q (.agg [.cplx .f64 x y,.cplx .f64 z t]) h'):Ev (cfgR ro) 266 [.str s] h Q:=by
 refine Ev.wp rfl rfl Tryz.func266 rfl ?_
 obtain⟨h1,hh1⟩:∃h1,h1=h.push (.row 1 true (s.map fun x=>.int .u8 x.toNat)):=⟨_,rfl⟩
 have o1:Old h h1:=by rw [hh1];exact(Old.refl h).push _
 have bm:BM h h1 (.sl h.next 0 s.length) s:=⟨bes_one s,.inr ⟨h.next,true,by rw [bes_len],Nat.le_refl _,by rw [hh1];simp,by rw [hh1,get_push_next,bes_flat];rfl⟩⟩
 have bs:∀h',Old h1 h'→BS (cfgR ro) h' (.sl h.next 0 s.length) s:=fun h' o=>bm.toBS.old o
 have hX:∀h',Old h1 h'→∀i,i < s.length→indexAddrR Tryz.prog 162 (.sl h.next 0 s.length) (.int .i64 (i:Int))=.ok (elp (.sl h.next 0 s.length) 1 i):=fun h' o i hi=>(bs h' o).idx un162 sz5 hi
 have hA:∀h',Old h1 h'→∀i (hi:i < s.length),loadR (cfgR ro) h' 5 (elp (.sl h.next 0 s.length) 1 i)=.ok (.int .u8 s[i].toNat):=fun h' o i hi=>(bs h' o).load hi ag5
 have hL:=(bs h1 (Old.refl h1)).lenR (t:=162) un162
 obtain⟨sv,hsv⟩:∃sv,sv=AVal.sl h.next 0 s.length:=⟨_,rfl⟩
 simp -implicitDefEqProofs [Tryz.f266]
 refine stay_ev ?_
 simp -implicitDefEqProofs [←hh1,hL]
 rw [←hsv]at hX hA ⊢
 obtain⟨I,hI⟩:∃I:Nat→List AVal→AHeap→Prop,I=fun m env h'=>∃(i:Nat) (x y z t:Nat),i+m=s.length∧Old h1 h'∧WkR x y z t (Wk.text (s.take i))∧
  env=(.dead :: .dead :: .cell [.cplx .f64 0 0,.cplx .f64 0 0] :: .cell [.cplx .f64 x y,.cplx .f64 z t] :: .dead :: .dead :: .dead :: .dead :: sv :: .int .i64 (s.length:Nat) :: .int .i64 (i:Nat) :: .dead :: .dead :: .dead :: .dead :: .dead :: .dead :: .dead :: .dead :: .dead :: .dead :: []):=⟨_,rfl⟩
 refine loop_of I ?_ s.length (by rw [hI];exact⟨0,_,_,_,_,by omega,Old.refl h1,⟨wh_c1,wh_c0,wh_c0,wh_c0⟩,rfl⟩)
 intro m env h' hi
 rw [hI]at hi
 obtain⟨i,x,y,z,t,him,ho,hw,rfl⟩:=hi
 by_cases hlt:i < s.length
 · have w1:IntKind.i64.wrap ((i:Int)+1)=((i+1:Nat):Int):=by rw [w64 (by omega) (by omega)];push_cast;rfl
   simp -implicitDefEqProofs [hlt,hX h' ho i hlt,hA h' ho i hlt]
   refine wof_ev (fun e f g k hv=>?_)
   have o2:Old h' (h'.push (.row 2 false [.cplx .f64 e f,.cplx .f64 g k])):=(Old.refl h').push _
   have hsl:Sl (cfgR ro) (h'.push (.row 2 false [.cplx .f64 e f,.cplx .f64 g k])) 2 (.sl h'.next 0 1) [[.cplx .f64 e f,.cplx .f64 g k]]:=
    Mine.sl (h0:=h') ⟨by simp,.inr ⟨h'.next,false,rfl,Nat.le_refl _,by simp,by rw [get_push_next];rfl⟩⟩
   simp -implicitDefEqProofs [buildSliceR,reps]
   refine then_ev hsl hw hv (Wk.text_ok _) (Wk.byte_ok _) (by simp;omega) (fun x' y' z' t' hw'=>?_)
   simp -implicitDefEqProofs [w1]
   refine .mk (m:=m - 1) (by omega) (by
    rw [hI]
    refine⟨i+1,x',y',z',t',by omega,ho.trans o2,?_,by simp⟩
    have:Wk.text (s.take (i+1))=(Wk.text (s.take i)).then_ (Wk.byte s[i]):=by
     rw [List.take_succ_eq_append_getElem hlt,Wk.text,List.foldl_append];rfl
    rw [this];exact hw')
 · simp -implicitDefEqProofs [hlt]
   have:s.take i=s:=List.take_of_length_le (by omega)
   rw [this]at hw
   exact hq _ _ _ _ _ (o1.trans ho) hw
end
end Go.Proofs.YtlhlbamcgopiiaaGreatDoor
set_option linter.all false
set_option maxRecDepth 100000
set_option maxHeartbeats 4000000
namespace Go.Proofs.YtlhlbamcgopiiaaGreatDoor
open Go Go.RowKit Go.Proofs
structure RunV where
 clock:Nat
 r:Nat
 n:Nat
 er:Nat
 en:Nat
 text:Str
 shown:Bool
def RunV.cells (x:RunV):List AVal:=[.int .u64 x.clock,.int .u16 x.r,.int .u32 x.n,.int .u16 x.er,.int .u32 x.en,.str x.text,.bool x.shown]
structure MassV where
 at_:Nat
 sh:Nat
 a:Nat
 b:Nat
 c:Nat
 d:Nat
def MassV.cells (m:MassV):List AVal:=[.int .i64 m.at_,.int .i64 m.sh,.cplx .f64 m.a m.b,.cplx .f64 m.c m.d]
def atomsN (l:List RunV):Nat:=(l.map fun x=>x.text.length).sum
def shownTx (l:List RunV):Str:=(l.map fun x=>if x.shown then x.text else []).flatten
theorem atomsN_append (a b:List RunV):atomsN (a++b)=atomsN a+atomsN b:=by simp [atomsN]
theorem shownTx_append (a b:List RunV):shownTx (a++b)=shownTx a++shownTx b:=by simp [shownTx]
theorem shown_le (l:List RunV):(shownTx l).length≤atomsN l:=by
 induction l with
 | nil=>simp [shownTx,atomsN]
 | cons x l ih=>
  have h1:shownTx (x :: l)=(if x.shown then x.text else [])++shownTx l:=by simp [shownTx]
  have h2:atomsN (x :: l)=x.text.length+atomsN l:=by simp [atomsN]
  rw [h1,h2,List.length_append]
  cases x.shown <;> simp <;> omega
structure MassOf (l:List RunV) (m:MassV):Prop where
 at_:m.at_=atomsN l
 sh:m.sh=(shownTx l).length
 w:0 < m.sh→WkR m.a m.b m.c m.d (Wk.text (shownTx l))
theorem MassOf.nil:MassOf [] ⟨0,0,0,0,0,0⟩:=⟨rfl,rfl,fun h=>absurd h (by simp)⟩
section
variable {ro:Nat→Option (List AVal)}
theorem rlen_ev {h:AHeap} {x:RunV} {Q:AVal→AHeap→Prop} (hq:Q (.int .i64 x.text.length) h):Ev (cfgR ro) 139 [.agg x.cells] h Q:=by
 refine Ev.wp rfl rfl Tryz.func139 rfl ?_
 simp -implicitDefEqProofs [Tryz.f139,RunV.cells]
 exact hq
theorem measure_ev {h:AHeap} {x:RunV} (hl:x.text.length < 2 ^ 39) {Q:AVal→AHeap→Prop} (hq:∀m h',Old h h'→MassOf [x] m→Q (.agg m.cells) h'):Ev (cfgR ro) 265 [.agg x.cells] h Q:=by
 refine Ev.wp rfl rfl Tryz.func265 rfl ?_
 obtain⟨c,r,n,er,en,tx,sh⟩:=x
 simp only at hl
 cases sh with
 | false=>
  have hq:=hq ⟨tx.length,0,0,0,0,0⟩ h (Old.refl h) ⟨by simp [atomsN],by simp [shownTx],fun h=>absurd h (by simp)⟩
  simp only [MassV.cells]at hq
  simp -implicitDefEqProofs [Tryz.f265,RunV.cells]
  refine rlen_ev (x:=⟨c,r,n,er,en,tx,false⟩) ?_
  simp -implicitDefEqProofs
  exact hq
 | true=>
  simp -implicitDefEqProofs [Tryz.f265,RunV.cells]
  refine rlen_ev (x:=⟨c,r,n,er,en,tx,true⟩) ?_
  simp -implicitDefEqProofs
  refine rlen_ev (x:=⟨c,r,n,er,en,tx,true⟩) ?_
  simp -implicitDefEqProofs
  refine wtext_ev hl (fun x y z t h' o hw=>?_)
  have hq:=hq ⟨tx.length,tx.length,x,y,z,t⟩ h' o ⟨by simp [atomsN],by simp [shownTx],fun _=>by simpa [shownTx] using hw⟩
  simp only [MassV.cells]at hq
  simp -implicitDefEqProofs
  exact hq
theorem mplus_ev {h:AHeap} {l1 l2:List RunV} {m1 m2:MassV} (h1:MassOf l1 m1) (h2:MassOf l2 m2) (hl:atomsN l1+atomsN l2 < 2 ^ 39) {Q:AVal→AHeap→Prop}
 (hq:∀m h',Old h h'→MassOf (l1++l2) m→Q (.agg m.cells) h'):Ev (cfgR ro) 272 [.agg m1.cells,.agg m2.cells] h Q:=by
 refine Ev.wp rfl rfl Tryz.func272 rfl ?_
 obtain⟨a1,s1,x1,y1,z1,t1⟩:=m1
 obtain⟨a2,s2,x2,y2,z2,t2⟩:=m2
 obtain⟨p1,q1,w1⟩:=h1
 obtain⟨p2,q2,w2⟩:=h2
 simp only at p1 q1 w1 p2 q2 w2
 have b1:=shown_le l1
 have b2:=shown_le l2
 have wr1:IntKind.i64.wrap ((a1:Int)+(a2:Int))=((a1+a2:Nat):Int):=by rw [w64 (by omega) (by omega)];omega
 have wr2:IntKind.i64.wrap ((s1:Int)+(s2:Int))=((s1+s2:Nat):Int):=by rw [w64 (by omega) (by omega)];omega
 have hat:a1+a2=atomsN (l1++l2):=by rw [atomsN_append];omega
 have hsh:s1+s2=(shownTx (l1++l2)).length:=by rw [shownTx_append,List.length_append];omega
 obtain⟨a3,ha3⟩:∃a3,a3=a1+a2:=⟨_,rfl⟩
 obtain⟨s3,hs3⟩:∃s3,s3=s1+s2:=⟨_,rfl⟩
 rw [←ha3]at wr1 hat
 rw [←hs3]at wr2 hsh
 by_cases z1':s1=0
 · have hq:=hq ⟨a3,s3,x2,y2,z2,t2⟩ h (Old.refl h) ⟨hat,hsh,fun hp=>by
    have e1:shownTx l1=[]:=List.length_eq_zero_iff.1 (by omega)
    simp only []at hp ⊢
    rw [shownTx_append,e1,List.nil_append]
    exact w2 (by omega)⟩
   simp only [MassV.cells]at hq
   have d0:decide ((s1:Int)=0)=true:=decide_eq_true (by omega)
   simp -implicitDefEqProofs [Tryz.f272,MassV.cells,z1',d0]
   rw [z1']at wr2
   simp at wr2
   simp -implicitDefEqProofs [wr1,wr2]
   exact hq
 · have d0:decide ((s1:Int)=0)=false:=decide_eq_false (by omega)
   by_cases z2':s2=0
   · have hq:=hq ⟨a3,s3,x1,y1,z1,t1⟩ h (Old.refl h) ⟨hat,hsh,fun hp=>by
      have e1:shownTx l2=[]:=List.length_eq_zero_iff.1 (by omega)
      simp only []at hp ⊢
      rw [shownTx_append,e1,List.append_nil]
      exact w1 (by omega)⟩
     simp only [MassV.cells]at hq
     have d2:decide (0 < (s2:Int))=false:=decide_eq_false (by omega)
     have hp2:¬0 < s2:=by omega
     have hp3:decide (0 < s2)=false:=decide_eq_false hp2
     simp -implicitDefEqProofs [Tryz.f272,MassV.cells,z1',d0,d2,hp2,hp3,wr1,wr2]
     exact hq
   · have d2:decide (0 < (s2:Int))=true:=decide_eq_true (by omega)
     have hp2:0 < s2:=by omega
     have hw1:=w1 (by omega)
     have hw2:=w2 (by omega)
     have o2:Old h (h.push (.row 2 false [.cplx .f64 x2 y2,.cplx .f64 z2 t2])):=(Old.refl h).push _
     have hsl:Sl (cfgR ro) (h.push (.row 2 false [.cplx .f64 x2 y2,.cplx .f64 z2 t2])) 2 (.sl h.next 0 1) [[.cplx .f64 x2 y2,.cplx .f64 z2 t2]]:=
      Mine.sl (h0:=h) ⟨by simp,.inr ⟨h.next,false,rfl,Nat.le_refl _,by simp,by rw [get_push_next];rfl⟩⟩
     simp -implicitDefEqProofs [Tryz.f272,MassV.cells,z1',d0,d2,hp2,buildSliceR,reps]
     refine then_ev hsl hw1 hw2 (Wk.text_ok _) (Wk.text_ok _) (by omega) (fun x y z t hw=>?_)
     have hq:=hq ⟨a3,s3,x,y,z,t⟩ _ o2 ⟨hat,hsh,fun _=>by rw [shownTx_append,Wk.text_append];exact hw⟩
     simp only [MassV.cells]at hq
     simp -implicitDefEqProofs [wr1,wr2]
     exact hq
end
end Go.Proofs.YtlhlbamcgopiiaaGreatDoor
set_option linter.all false
set_option maxRecDepth 100000
set_option maxHeartbeats 4000000
namespace Go.Proofs.YtlhlbamcgopiiaaGreatDoor
open Go Go.RowKit Go.Proofs
def TS:Sig RunV:=⟨RunV.cells,fun l all=>∃m,MassOf l m∧all=m.cells⟩
theorem rs_node (o ht:Nat) (x:RunV) (l r:Rt RunV):(Rt.node o ht x l r).rs=l.rs++x :: r.rs:=by simp [Rt.rs,Rt.items]
def Rt.at_ (t:Rt RunV):Nat:=atomsN t.rs
def nrow (up l r:AVal) (ht sz:Nat) (x:RunV) (m:MassV):AObj:=.row 0 false [up,l,r,.int .u64 ht,.int .i64 sz,.int .u64 x.clock,.int .u16 x.r,.int .u32 x.n,.int .u16 x.er,.int .u32 x.en,.str x.text,.bool x.shown,.int .i64 m.at_,.int .i64 m.sh,.cplx .f64 m.a m.b,.cplx .f64 m.c m.d]
theorem nobj_row (up l r:AVal) (ht sz:Nat) (x:RunV) (m:MassV):nobj TS up l r ht sz x m.cells=nrow up l r ht sz x m:=rfl
theorem at_node {h:AHeap} {up:AVal} {o ht:Nat} {x:RunV} {l r:Rt RunV}:At TS h up (.node o ht x l r)↔(∃m,MassOf (l.rs++x :: r.rs) m∧h.get o=some (nrow up l.ptr r.ptr ht (l.items.length+1+r.items.length) x m))∧At TS h (.ptr o 0) l∧At TS h (.ptr o 0) r:=by
 constructor
 · rintro⟨⟨all,⟨m,hm,rfl⟩,h1⟩,h2⟩
   rw [rs_node]at hm
   exact⟨⟨m,hm,by rw [←nobj_row];exact h1⟩,h2⟩
 · rintro⟨⟨m,hm,h1⟩,h2⟩
   exact⟨⟨m.cells,⟨m,by rw [rs_node];exact hm,rfl⟩,by rw [nobj_row];exact h1⟩,h2⟩
theorem meth_run:methodR Tryz.prog 202 "Measure"=.ok 265:=by kernel_rfl
theorem meth_mass:methodR Tryz.prog 220 "Plus"=.ok 272:=by kernel_rfl
@[simp] theorem ptr_nil:(Rt.nil:Rt RunV).ptr=.nilp:=rfl
theorem ptr_node (o ht:Nat) (x:RunV) (l r:Rt RunV):(Rt.node o ht x l r).ptr=.ptr o 0:=rfl
@[simp] theorem get_set_self (h:AHeap) (o:Nat) (x:AObj):(h.set o x).get o=some x:=by rw [AHeap.get_set,if_pos rfl]
theorem get_set_ne {h:AHeap} {o q:Nat} {x:AObj} (d:q≠o):(h.set q x).get o=h.get o:=by rw [AHeap.get_set,if_neg d.symm]
def Fit (t:Rt RunV):Prop:=t.items.length < 2 ^ 38∧t.at_ < 2 ^ 38
section
variable {ro:Nat→Option (List AVal)}
theorem len_ev {h:AHeap} {up:AVal} {t:Rt RunV} (ha:At TS h up t) {Q:AVal→AHeap→Prop} (hq:Q (.int .i64 t.items.length) h):Ev (cfgR ro) 174 [t.ptr] h Q:=by
 refine Ev.wp rfl rfl Tryz.func174 rfl ?_
 cases t with
 | nil=>simp -implicitDefEqProofs [Tryz.f174,Rt.ptr];simpa [Rt.items] using hq
 | node o ht x l r=>
  obtain⟨⟨m,hm,h1⟩,_⟩:=at_node.1 ha
  have hl:(Rt.node o ht x l r).items.length=l.items.length+1+r.items.length:=by simp [Rt.items];omega
  rw [hl]at hq
  obtain⟨n,hn⟩:∃n,n=l.items.length+1+r.items.length:=⟨_,rfl⟩
  rw [←hn]at h1 hq
  rw [nrow]at h1
  simp -implicitDefEqProofs [Tryz.f174,Rt.ptr,h1]
  exact hq
theorem sum_ev {h:AHeap} {up:AVal} {t:Rt RunV} (ha:At TS h up t) {Q:AVal→AHeap→Prop} (hq:∀m,MassOf t.rs m→Q (.agg m.cells) h):Ev (cfgR ro) 173 [t.ptr] h Q:=by
 refine Ev.wp rfl rfl Tryz.func173 rfl ?_
 cases t with
 | nil=>
  have hq:=hq _ MassOf.nil
  simp only [MassV.cells]at hq
  simp -implicitDefEqProofs [Tryz.f173,Rt.ptr];exact hq
 | node o ht x l r=>
  obtain⟨⟨m,hm,h1⟩,_⟩:=at_node.1 ha
  have hq:=hq m (by rw [rs_node];exact hm)
  simp only [MassV.cells]at hq
  rw [nrow]at h1
  simp -implicitDefEqProofs [Tryz.f173,Rt.ptr,h1]
  exact hq
theorem renew_ev {h:AHeap} {up u1 u2:AVal} {n ht sz:Nat} {x:RunV} {all:MassV} {l r:Rt RunV} (hn:h.get n=some (nrow up l.ptr r.ptr ht sz x all)) (hl:At TS h u1 l) (hr:At TS h u2 r)
 (hnl:n ∉ l.ids) (hnr:n ∉ r.ids) (hnn:n < h.next) (hll:∀o∈l.ids,o < h.next) (hlr:∀o∈r.ids,o < h.next) (hlen:l.items.length+r.items.length < 2 ^ 38) (htx:l.at_+x.text.length+r.at_ < 2 ^ 38) {Q:AVal→AHeap→Prop}
 (hq:∀h' m,MassOf (l.rs++x :: r.rs) m→h'.get n=some (nrow up l.ptr r.ptr ht (l.items.length+1+r.items.length) x m)→(∀o,o < h.next→o≠n→h'.get o=h.get o)→h.next≤h'.next→Q (.tuple []) h'):Ev (cfgR ro) 215 [.ptr n 0] h Q:=by
 refine Ev.wp rfl rfl Tryz.func215 rfl ?_
 rw [nrow]at hn
 simp -implicitDefEqProofs [Tryz.f215,hn]
 refine len_ev hl ?_
 simp -implicitDefEqProofs [hn]
 refine len_ev hr ?_
 have e1:IntKind.i64.wrap ((l.items.length:Int)+1)=((l.items.length+1:Nat):Int):=by rw [w64 (by omega) (by omega)];omega
 obtain⟨k,hk⟩:∃k,k=l.items.length+1:=⟨_,rfl⟩
 rw [←hk]at e1
 have e2:IntKind.i64.wrap ((k:Int)+r.items.length)=((l.items.length+1+r.items.length:Nat):Int):=by rw [w64 (by omega) (by omega)];omega
 obtain⟨s,hs⟩:∃s,s=l.items.length+1+r.items.length:=⟨_,rfl⟩
 rw [←hs]at e2
 simp only [←hs]at hq
 simp -implicitDefEqProofs [hn,e1,e2,same_self]
 obtain⟨h2,hh2⟩:∃h2,h2=h.set n (nrow up l.ptr r.ptr ht s x all):=⟨_,rfl⟩
 have hh2':=hh2
 rw [nrow]at hh2'
 rw [←hh2']
 have hn2:h2.get n=some (nrow up l.ptr r.ptr ht s x all):=by rw [hh2,get_set_self]
 have n2:h2.next=h.next:=by rw [hh2];rfl
 have hl2:At TS h2 u1 l:=At.congr (fun o ho=>by rw [hh2,get_set_ne (fun e=>hnl (by rw [e];exact ho))]) hl
 have hr2:At TS h2 u2 r:=At.congr (fun o ho=>by rw [hh2,get_set_ne (fun e=>hnr (by rw [e];exact ho))]) hr
 have k2:∀o,o≠n→h2.get o=h.get o:=fun o ho=>by rw [hh2,get_set_ne (Ne.symm ho)]
 rw [nrow]at hn2
 refine sum_ev hl2 (fun m1 hm1=>?_)
 simp -implicitDefEqProofs [hn2,undR,Tryz.underlying202,Tryz.underlying220,meth_run,meth_mass]
 refine measure_ev (x:=x) (by omega) (fun m2 h3 o3 hm2=>?_)
 have hn3:=hn2
 rw [←o3.2 n (by rw [n2];exact hnn)]at hn3
 simp -implicitDefEqProofs [hn2,hn3,undR,Tryz.underlying202,Tryz.underlying220,meth_run,meth_mass,same_self]
 refine mplus_ev hm1 hm2 (by show l.at_+_ < _;simp [atomsN];omega) (fun m3 h4 o4 hm3=>?_)
 have o24:=o3.trans o4
 have hn4:=hn2
 rw [←o24.2 n (by rw [n2];exact hnn)]at hn4
 simp -implicitDefEqProofs [hn2,hn3,hn4,undR,Tryz.underlying202,Tryz.underlying220,meth_run,meth_mass,same_self]
 have hr4:At TS h4 u2 r:=At.congr (fun o ho=>o24.2 o (by rw [n2];exact hlr o ho)) hr2
 refine sum_ev hr4 (fun m5 hm5=>?_)
 simp -implicitDefEqProofs [hn2,hn3,hn4,undR,Tryz.underlying202,Tryz.underlying220,meth_run,meth_mass,same_self]
 refine mplus_ev hm3 hm5 (by rw [atomsN_append];show l.at_+_+r.at_ < _;simp [atomsN];omega) (fun m6 h6 o6 hm6=>?_)
 have o26:=o24.trans o6
 have hn6:=hn2
 rw [←o26.2 n (by rw [n2];exact hnn)]at hn6
 simp -implicitDefEqProofs [hn2,hn3,hn4,hn6,MassV.cells,same_self,get_set_self]
 refine hq (h6.set n (nrow up l.ptr r.ptr ht s x m6)) m6 (by rw [List.append_assoc]at hm6;exact hm6) (get_set_self _ _ _) (fun o ho hne=>?_) (by have:=o26.1;rw [n2]at this;exact this)
 rw [get_set_ne (Ne.symm hne),o26.2 o (by rw [n2];exact ho),k2 o hne]
end
end Go.Proofs.YtlhlbamcgopiiaaGreatDoor
set_option linter.all false
set_option maxRecDepth 100000
set_option maxHeartbeats 4000000
namespace Go.Proofs.YtlhlbamcgopiiaaGreatDoor
open Go Go.RowKit Go.Proofs
def Stl (h:AHeap) (c:List (Frm RunV)) (n ht:Nat) (x:RunV) (l r:Rt RunV):Prop:=
 (∃sz all,h.get n=some (nrow (upOf c) l.ptr r.ptr ht sz x all))∧At TS h (.ptr n 0) l∧At TS h (.ptr n 0) r∧CA TS h c (.ptr n 0)
theorem Stl.up {h:AHeap} {f:Frm RunV} {c:List (Frm RunV)} {t:Rt RunV} (ha:At TS h (.ptr f.o 0) t) (hc:CA TS h (f :: c) t.ptr):∃l r,plug1 f t=.node f.o f.ht f.x l r∧Stl h c f.o f.ht f.x l r:=by
 obtain⟨⟨sz,all,⟨q,m,hq,rfl⟩,h1⟩,h2,h3⟩:=hc
 rw [nobj_row]at h1
 unfold plug1
 cases hf:f.left with
 | true=>
  have e1:lptr f t.ptr=t.ptr:=by simp only [lptr,hf]
  have e2:rptr' f t.ptr=f.sib.ptr:=by simp only [rptr',hf]
  rw [e1,e2]at h1
  exact⟨_,_,rfl,⟨sz,_,h1⟩,ha,h2,h3⟩
 | false=>
  have e1:lptr f t.ptr=f.sib.ptr:=by simp only [lptr,hf]
  have e2:rptr' f t.ptr=t.ptr:=by simp only [rptr',hf]
  rw [e1,e2]at h1
  exact⟨_,_,rfl,⟨sz,_,h1⟩,h2,ha,h3⟩
theorem plug_at (c:List (Frm RunV)) (t:Rt RunV):(plug c t).at_=atomsN ((bef c).map (·.2))+t.at_+atomsN ((aft c).map (·.2)):=by simp [Rt.at_,Rt.rs,plug_items,atomsN_append,Nat.add_assoc]
theorem at_node_n (o ht:Nat) (x:RunV) (l r:Rt RunV):(Rt.node o ht x l r).at_=l.at_+x.text.length+r.at_:=by
 unfold Rt.at_
 rw [rs_node,atomsN_append]
 simp [atomsN];omega
theorem Fit.sub {c:List (Frm RunV)} {t:Rt RunV} (h:Fit (plug c t)):Fit t:=by
 unfold Fit at *
 rw [plug_items,plug_at]at h
 simp at h
 exact⟨by omega,by omega⟩
theorem Fit.node {o ht:Nat} {x:RunV} {l r:Rt RunV} (h:Fit (.node o ht x l r)):l.items.length+r.items.length < 2 ^ 38∧l.at_+x.text.length+r.at_ < 2 ^ 38:=by
 unfold Fit at h
 rw [at_node_n,items_node]at h
 simp at h
 exact⟨by omega,by omega⟩
section
variable {ro:Nat→Option (List AVal)}
theorem climb_ev {h:AHeap} {c:List (Frm RunV)} {n ht:Nat} {x:RunV} {l r:Rt RunV} (hs:Stl h c n ht x l r) (hnd:(plug c (.node n ht x l r)).ids.Nodup) (hlt:∀o∈(plug c (.node n ht x l r)).ids,o < h.next) (hfit:Fit (plug c (.node n ht x l r))) {Q:AVal→AHeap→Prop}
 (hq:∀h',At TS h' .nilp (plug c (.node n ht x l r))→(∀o,o < h.next→o ∉ (plug c (.node n ht x l r)).ids→h'.get o=h.get o)→h.next≤h'.next→Q (.tuple []) h'):Ev (cfgR ro) 193 [.ptr n 0] h Q:=by
 obtain⟨W,hW⟩:∃W,W=plug c (.node n ht x l r):=⟨_,rfl⟩
 rw [←hW]at hq hnd hfit hlt
 refine Ev.wp rfl rfl Tryz.func193 rfl ?_
 simp -implicitDefEqProofs [Tryz.f193]
 obtain⟨I,hI⟩:∃I:Nat→List AVal→AHeap→Prop,I=fun m env h'=>(∀o,o < h.next→o ∉ W.ids→h'.get o=h.get o)∧h.next≤h'.next∧
  ((m=0∧At TS h' .nilp W∧env=[.nilp,.dead,.dead,.dead,.dead,.dead,.dead,.dead,.dead,.dead])∨∃c n ht x l r,m=c.length+1∧W=plug c (.node n ht x l r)∧Stl h' c n ht x l r∧env=[.ptr n 0,.dead,.dead,.dead,.dead,.dead,.dead,.dead,.dead,.dead]):=⟨_,rfl⟩
 refine loop_of I ?_ (c.length+1) (by rw [hI];exact⟨fun _ _ _=>rfl,Nat.le_refl _,.inr ⟨c,n,ht,x,l,r,rfl,hW,hs,rfl⟩⟩)
 rintro m env h' hi
 rw [hI]at hi
 obtain⟨hfr,hnx,⟨rfl,hat,rfl⟩ | ⟨c,n,ht,x,l,r,rfl,hW,hs,rfl⟩⟩:=hi
 · simp -implicitDefEqProofs
   exact hq _ hat hfr hnx
 · simp -implicitDefEqProofs
   obtain⟨⟨sz,all,hn⟩,hl,hr,hc⟩:=hs
   rw [hW]at hnd hfit
   have hlt':∀o∈(plug c (.node n ht x l r)).ids,o < h'.next:=fun o ho=>Nat.lt_of_lt_of_le (hlt o (by rw [hW];exact ho)) hnx
   obtain⟨nd1,nd2⟩:=apart_tree hnd
   obtain⟨_,_,hnl,hnr,hlr⟩:=apart_node nd1
   obtain⟨f1,f2⟩:=hfit.sub.node
   have hnn:n < h'.next:=hlt' n (plug_mem.2 (.inl (by rw [ids_node];simp)))
   have hll:∀o∈l.ids,o < h'.next:=fun o ho=>hlt' o (plug_mem.2 (.inl (by rw [ids_node];simp [ho])))
   have hlr':∀o∈r.ids,o < h'.next:=fun o ho=>hlt' o (plug_mem.2 (.inl (by rw [ids_node];simp [ho])))
   have hlc:∀o∈cids c,o < h'.next:=fun o ho=>hlt' o (plug_mem.2 (.inr ho))
   refine renew_ev hn hl hr hnl hnr hnn hll hlr' f1 f2 (fun h2 m2 hm2 g1 g2 g3=>?_)
   have hat:At TS h2 (upOf c) (.node n ht x l r):=at_node.2 ⟨⟨m2,hm2,g1⟩,At.congr (fun o ho=>g2 o (hll o ho) (fun e=>hnl (by rw [←e];exact ho))) hl,At.congr (fun o ho=>g2 o (hlr' o ho) (fun e=>hnr (by rw [←e];exact ho))) hr⟩
   have hca:CA TS h2 c (.ptr n 0):=CA.congr (fun o ho=>g2 o (hlc o ho) (fun e=>nd2 n (by rw [ids_node];simp) (by rw [←e];exact ho))) hc
   have hfr2:∀o,o < h.next→o ∉ W.ids→h2.get o=h.get o:=fun o hon ho=>by
    rw [g2 o (Nat.lt_of_lt_of_le hon hnx) (fun e=>ho (by rw [hW,plug_mem,ids_node,e];simp)),hfr o hon ho]
   rw [nrow]at g1
   simp -implicitDefEqProofs [g1]
   cases c with
   | nil=>
    simp -implicitDefEqProofs [upOf]
    exact .mk (m:=0) (by simp) (by rw [hI];exact⟨hfr2,Nat.le_trans hnx g3,.inl ⟨rfl,by rw [hW];exact hat,rfl⟩⟩)
   | cons f c=>
    obtain⟨l2,r2,e1,e2⟩:=Stl.up (t:=.node n ht x l r) hat hca
    simp -implicitDefEqProofs [upOf]
    exact .mk (m:=c.length+1) (by simp) (by rw [hI];exact⟨hfr2,Nat.le_trans hnx g3,.inr ⟨c,f.o,f.ht,f.x,l2,r2,rfl,by rw [hW,plug,e1],e2,rfl⟩⟩)
end
end Go.Proofs.YtlhlbamcgopiiaaGreatDoor
set_option linter.all false
set_option maxRecDepth 100000
set_option maxHeartbeats 4000000
namespace Go.Proofs.YtlhlbamcgopiiaaGreatDoor
open Go Go.RowKit Go.Proofs
def itf (f:Frm RunV) (it:List (Nat×RunV)):List (Nat×RunV):=match f.left with
 | true=>it++(f.o,f.x) :: f.sib.items
 | false=>f.sib.items++(f.o,f.x) :: it
def CX (h:AHeap):List (Frm RunV)→List (Nat×RunV)→AVal→Prop
 | [],_,_=>True
 | f :: c,it,p=>(∃m,MassOf ((itf f it).map (·.2)) m∧h.get f.o=some (nrow (upOf c) (lptr f p) (rptr' f p) f.ht (itf f it).length f.x m))∧At TS h (.ptr f.o 0) f.sib∧CX h c (itf f it) (.ptr f.o 0)
theorem CX.congr {h h':AHeap}:∀{c:List (Frm RunV)} {it:List (Nat×RunV)} {p:AVal},(∀o∈cids c,h'.get o=h.get o)→CX h c it p→CX h' c it p
 | [],_,_,_,_=>trivial
 | f :: c,it,p,hg,ha=>by
  obtain⟨⟨m,hm,h1⟩,h2,h3⟩:=ha
  exact⟨⟨m,hm,by rw [hg f.o (cids_cons.2 (.inl rfl))];exact h1⟩,At.congr (fun q hq=>hg q (cids_cons.2 (.inr (.inl hq)))) h2,CX.congr (fun q hq=>hg q (cids_cons.2 (.inr (.inr hq)))) h3⟩
theorem CX.ca {h:AHeap}:∀{c:List (Frm RunV)} {it:List (Nat×RunV)} {p:AVal},CX h c it p→CA TS h c p
 | [],_,_,_=>trivial
 | f :: c,it,p,⟨⟨m,hm,h1⟩,h2,h3⟩=>⟨⟨_,_,⟨(itf f it).map (fun x=>x.2),m,hm,rfl⟩,by rw [h1];rfl⟩,h2,CX.ca h3⟩
theorem itf_items (f:Frm RunV) (t:Rt RunV):itf f t.items=(plug1 f t).items:=by
 unfold itf plug1
 cases f.left <;> rfl
theorem CX.join {h:AHeap}:∀{c:List (Frm RunV)} {t:Rt RunV},At TS h (upOf c) t→CX h c t.items t.ptr→At TS h .nilp (plug c t)
 | [],t,ha,_=>ha
 | f :: c,t,ha,⟨⟨m,hm,h1⟩,h2,h3⟩=>by
  rw [itf_items]at hm h1 h3
  unfold plug
  refine CX.join (c:=c) (t:=plug1 f t) ?_ ?_
  · unfold plug1 at hm h1 ⊢
    cases hf:f.left with
    | true=>
     have e1:lptr f t.ptr=t.ptr:=by simp only [lptr,hf]
     have e2:rptr' f t.ptr=f.sib.ptr:=by simp only [rptr',hf]
     rw [hf]at hm h1
     simp only at hm h1 ⊢
     rw [e1,e2]at h1
     refine at_node.2 ⟨⟨m,by rw [←rs_node f.o f.ht];exact hm,?_⟩,ha,h2⟩
     rw [h1,Rt.items,List.length_append,List.length_cons]
     congr 2;omega
    | false=>
     have e1:lptr f t.ptr=f.sib.ptr:=by simp only [lptr,hf]
     have e2:rptr' f t.ptr=t.ptr:=by simp only [rptr',hf]
     rw [hf]at hm h1
     simp only at hm h1 ⊢
     rw [e1,e2]at h1
     refine at_node.2 ⟨⟨m,by rw [←rs_node f.o f.ht];exact hm,?_⟩,h2,ha⟩
     rw [h1,Rt.items,List.length_append,List.length_cons]
     congr 2;omega
  · have hp:(plug1 f t).ptr=.ptr f.o 0:=by unfold plug1;cases f.left <;> rfl
    rw [hp];exact h3
theorem CX.split {h:AHeap}:∀{c:List (Frm RunV)} {t:Rt RunV},At TS h .nilp (plug c t)→At TS h (upOf c) t∧CX h c t.items t.ptr
 | [],t,ha=>⟨ha,trivial⟩
 | f :: c,t,ha=>by
  obtain⟨h1,h2⟩:=CX.split (c:=c) (t:=plug1 f t) ha
  have hp:(plug1 f t).ptr=.ptr f.o 0:=by unfold plug1;cases f.left <;> rfl
  rw [hp]at h2
  rw [←itf_items]at h2
  unfold plug1 at h1
  cases hf:f.left with
  | true=>
   have e1:lptr f t.ptr=t.ptr:=by simp only [lptr,hf]
   have e2:rptr' f t.ptr=f.sib.ptr:=by simp only [rptr',hf]
   rw [hf]at h1
   obtain⟨⟨m,hm,a1⟩,a2,a3⟩:=at_node.1 h1
   refine⟨a2,⟨m,?_,?_⟩,a3,h2⟩
   · rw [itf_items];unfold plug1;rw [hf];simp only []
     show MassOf (Rt.node f.o f.ht f.x t f.sib).rs m
     rw [rs_node];exact hm
   · rw [e1,e2,a1,itf_items]
     unfold plug1
     rw [hf]
     simp only [Rt.items,List.length_append,List.length_cons]
     congr 2;omega
  | false=>
   have e1:lptr f t.ptr=f.sib.ptr:=by simp only [lptr,hf]
   have e2:rptr' f t.ptr=t.ptr:=by simp only [rptr',hf]
   rw [hf]at h1
   obtain⟨⟨m,hm,a1⟩,a2,a3⟩:=at_node.1 h1
   refine⟨a3,⟨m,?_,?_⟩,a2,h2⟩
   · rw [itf_items];unfold plug1;rw [hf];simp only []
     show MassOf (Rt.node f.o f.ht f.x f.sib t).rs m
     rw [rs_node];exact hm
   · rw [e1,e2,a1,itf_items]
     unfold plug1
     rw [hf]
     simp only [Rt.items,List.length_append,List.length_cons]
     congr 2;omega
end Go.Proofs.YtlhlbamcgopiiaaGreatDoor
set_option linter.all false
set_option maxRecDepth 100000
set_option maxHeartbeats 4000000
namespace Go.Proofs.YtlhlbamcgopiiaaGreatDoor
open Go Go.RowKit Go.Proofs
def rrow (z:List AVal×List AVal) (p:AVal) (s:Int):AObj:=.row 0 false (z.1++p :: .int .u64 s :: z.2)
@[simp] theorem take_mid0 (a b:List AVal) (p:AVal):takeR (a++p :: b) a.length 1=.ok [p]:=by simp [takeR]
@[simp] theorem take_mid1 (a b:List AVal) (p q:AVal):takeR (a++p :: q :: b) (a.length+1) 1=.ok [q]:=by
 unfold takeR
 rw [if_pos (by simp;omega),show a++p :: q :: b=(a++[p])++q :: b by simp,List.drop_left' (by simp)];rfl
@[simp] theorem over_mid0 (a b:List AVal) (p v:AVal):overR (a++p :: b) a.length [v]=.ok (a++v :: b):=by
 unfold overR
 rw [if_pos (by simp),List.take_left' rfl]
 simp
@[simp] theorem over_mid1 (a b:List AVal) (p q v:AVal):overR (a++p :: q :: b) (a.length+1) [v]=.ok (a++p :: v :: b):=by
 unfold overR
 rw [if_pos (by simp;omega),show a++p :: q :: b=(a++[p])++q :: b by simp,List.take_left' (by simp),show(a++[p])++q :: b=(a++[p,q])++b by simp,List.drop_left' (by simp)]
 simp
@[simp] theorem nth_mid0 (a b:List AVal) (p:AVal):nthR (a++p :: b) a.length=.ok p:=nthR_get (by simp)
@[simp] theorem nth_mid1 (a b:List AVal) (p q:AVal):nthR (a++p :: q :: b) (a.length+1)=.ok q:=by
 refine nthR_get ?_
 rw [show a++p :: q :: b=(a++[p])++q :: b by simp,List.getElem?_append_right (by simp)]
 simp
def topO:List (Frm RunV)→List Nat
 | []=>[]
 | f :: _=>[f.o]
def PtrTo (h:AHeap) (q:AVal):Prop:=q=.nilp∨∃n u l r ht sz x all,q=.ptr n 0∧h.get n=some (nrow u l r ht sz x all)
theorem ptrEq_ne {h:AHeap} {o f o' f':Nat} {e e':Nat} {vs vs':List AVal} (hne:o≠o') (h1:h.get o=some (.row e false vs)) (h2:h.get o'=some (.row e' false vs')):ptrEq h o f o' f'=.ok false:=by
 unfold ptrEq;rw [if_neg hne,h1,h2]
theorem ptrEq_self {h:AHeap} {o f:Nat}:ptrEq h o f o f=.ok true:=by unfold ptrEq;simp
section
variable {ro:Nat→Option (List AVal)} {z:List AVal×List AVal}
theorem eq_place {h:AHeap} {t:Rt RunV} {up:AVal} {o e:Nat} {vs:List AVal} (ha:At TS h up t) (ho:o ∉ t.ids) (hg:h.get o=some (.row e false vs)):eqIn (cfgR ro) h 10000 25 t.ptr (.ptr o 0)=.ok false:=by
 cases t with
 | nil=>exact eq25_np h o 0
 | node q ht x l r=>
  obtain⟨⟨m,_,hq⟩,_⟩:=at_node.1 ha
  show eqIn (cfgR ro) h 10000 25 (.ptr q 0) (.ptr o 0)=_
  rw [eq25_pp]
  exact ptrEq_ne (fun e=>ho (by rw [ids_node,e];simp)) hq hg
theorem hang_ev {h:AHeap} {c:List (Frm RunV)} {rr n old:Nat} {s:Int} {nu nl nr ol or_:AVal} {nht nsz oht osz:Nat} {nx ox:RunV} {nall oall:MassV} {it:List (Nat×RunV)}
 (hroot:h.get rr=some (rrow z (rootOf c (.ptr old 0)) s)) (hold:h.get old=some (nrow (upOf c) ol or_ oht osz ox oall)) (hn:h.get n=some (nrow nu nl nr nht nsz nx nall)) (hc:CX h c it (.ptr old 0))
 (d1:n≠old) (d2:old ∉ cids c) (d3:n ∉ cids c) (d4:rr ∉ cids c) (d5:rr≠n) (d6:rr≠old) (d7:(plug c (Rt.nil:Rt RunV)).ids.Nodup) {Q:AVal→AHeap→Prop}
 (hq:∀h',h'.get n=some (nrow (upOf c) nl nr nht nsz nx nall)→h'.get rr=some (rrow z (rootOf c (.ptr n 0)) s)→CX h' c it (.ptr n 0)→(∀o,o≠n→o≠rr→o ∉ cids c→h'.get o=h.get o)→h'.next=h.next→Q (.tuple []) h'):
 Ev (cfgR ro) 223 [.ptr rr z.1.length,.ptr old 0,.ptr n 0] h Q:=by
 refine Ev.wp rfl rfl Tryz.func223 rfl ?_
 cases c with
 | nil=>
  simp only [upOf,rootOf]at *
  simp -implicitDefEqProofs [Tryz.f223,hold,nrow,hn,d5,hroot,rrow,get_set_ne (Ne.symm d5)]
  refine hq _ ?_ ?_ trivial (fun o a b _=>?_) rfl
  · rw [get_set_ne d5,get_set_self];rfl
  · rw [get_set_self];rfl
  · rw [get_set_ne (Ne.symm b),get_set_ne (Ne.symm a)]
 | cons f c=>
  simp only [upOf,rootOf]at *
  obtain⟨⟨all,hm,h1⟩,h2,h3⟩:=hc
  obtain⟨J,hJ⟩:∃J,J=itf f it:=⟨_,rfl⟩
  obtain⟨sz,hsz⟩:∃sz,sz=J.length:=⟨_,rfl⟩
  rw [←hJ]at hm
  rw [←hJ,←hsz]at h1
  rw [←hJ]at h3
  have df:f.o∈cids (f :: c):=cids_cons.2 (.inl rfl)
  have n1:n≠f.o:=fun e=>d3 (by rw [e];exact df)
  have n2:old≠f.o:=fun e=>d2 (by rw [e];exact df)
  have n3:rr≠f.o:=fun e=>d4 (by rw [e];exact df)
  have hsibn:n ∉ f.sib.ids:=fun hm=>d3 (cids_cons.2 (.inr (.inl hm)))
  have hsibo:old ∉ f.sib.ids:=fun hm=>d2 (cids_cons.2 (.inr (.inl hm)))
  have hsibr:rr ∉ f.sib.ids:=fun hm=>d4 (cids_cons.2 (.inr (.inl hm)))
  have dd:f.o ∉ f.sib.ids∧f.o ∉ cids c:=by
   rw [plug]at d7
   obtain⟨q1,q2⟩:=apart_tree d7
   unfold plug1 at q1 q2
   cases hl:f.left with
   | true=>
    rw [hl]at q1 q2
    obtain⟨_,_,_,q3,_⟩:=apart_node q1
    exact⟨q3,q2 _ (by rw [ids_node];simp)⟩
   | false=>
    rw [hl]at q1 q2
    obtain⟨_,_,q3,_,_⟩:=apart_node q1
    exact⟨q3,q2 _ (by rw [ids_node];simp)⟩
  obtain⟨hA,hhA⟩:∃hA,hA=h.set n (nrow (.ptr f.o 0) nl nr nht nsz nx nall):=⟨_,rfl⟩
  have gA:∀o,o≠n→hA.get o=h.get o:=fun o ho=>by rw [hhA,get_set_ne (Ne.symm ho)]
  have h1':=h1
  rw [←gA _ (Ne.symm n1)]at h1'
  have hold':=hold
  rw [←gA _ (Ne.symm d1)]at hold'
  have hsib':At TS hA (.ptr f.o 0) f.sib:=At.congr (fun o ho=>gA o (fun e=>hsibn (by rw [←e];exact ho))) h2
  have fin:∀h',h'.get f.o=some (nrow (upOf c) (lptr f (.ptr n 0)) (rptr' f (.ptr n 0)) f.ht sz f.x all)→(∀o,o≠f.o→h'.get o=hA.get o)→h'.next=h.next→Q (.tuple []) h':=by
   intro h' g1 g2 g3
   refine hq h' ?_ ?_ ⟨⟨all,by rw [←hJ];exact hm,by rw [←hJ,←hsz,g1]⟩,?_,hJ ▸ ?_⟩ (fun o a b hcd=>?_) g3
   · rw [g2 n n1,hhA,get_set_self]
   · rw [g2 rr n3,gA rr d5];exact hroot
   · exact At.congr (fun o ho=>by rw [g2 o (fun e=>dd.1 (by rw [←e];exact ho)),gA o (fun e=>hsibn (by rw [←e];exact ho))]) h2
   · exact CX.congr (fun o ho=>by rw [g2 o (fun e=>dd.2 (by rw [←e];exact ho)),gA o (fun e=>d3 (cids_cons.2 (.inr (.inr (by rw [←e];exact ho)))))]) h3
   · rw [g2 o (fun e=>hcd (by rw [e];exact df)),gA o a]
  have hnA:hA.next=h.next:=by rw [hhA];rfl
  simp -implicitDefEqProofs [Tryz.f223,hold,nrow,hn]
  simp only [nrow]at hhA
  rw [←hhA]
  cases hl:f.left with
  | true=>
   have e1:lptr f (.ptr old 0)=.ptr old 0:=by simp only [lptr,hl]
   have e2:rptr' f (.ptr old 0)=f.sib.ptr:=by simp only [rptr',hl]
   rw [e1,e2,nrow]at h1'
   simp -implicitDefEqProofs [h1',ptrEq_self]
   exact fin _ (by rw [get_set_self,lptr,rptr',hl];rfl) (fun o ho=>get_set_ne (Ne.symm ho)) hnA
  | false=>
   have e1:lptr f (.ptr old 0)=f.sib.ptr:=by simp only [lptr,hl]
   have e2:rptr' f (.ptr old 0)=.ptr old 0:=by simp only [rptr',hl]
   rw [e1,e2,nrow]at h1'
   have heq:=eq_place (ro:=ro) hsib' hsibo hold'
   simp -implicitDefEqProofs [h1',heq]
   refine⟨by cases f.sib <;> simp [Rt.ptr],?_⟩
   exact fin _ (by rw [get_set_self,lptr,rptr',hl];rfl) (fun o ho=>get_set_ne (Ne.symm ho)) hnA
end
end Go.Proofs.YtlhlbamcgopiiaaGreatDoor
set_option linter.all false
set_option maxRecDepth 100000
set_option maxHeartbeats 4000000
namespace Go.Proofs.YtlhlbamcgopiiaaGreatDoor
open Go Go.RowKit Go.Proofs
def turned (f:Frm RunV) (n ht:Nat) (x:RunV) (l r:Rt RunV):Rt RunV:=match f.left with
 | true=>.node n ht x l (.node f.o f.ht f.x r f.sib)
 | false=>.node n ht x (.node f.o f.ht f.x f.sib l) r
theorem plug1_mem {f:Frm RunV} {t:Rt RunV} {o:Nat}:o∈(plug1 f t).ids↔o=f.o∨o∈f.sib.ids∨o∈t.ids:=by
 have h:=plug_mem (c:=[f]) (t:=t) (o:=o)
 rw [cids_cons]at h
 have h0:cids ([]:List (Frm RunV))=[]:=rfl
 rw [h0]at h
 have h1:plug [f] t=plug1 f t:=rfl
 rw [h1]at h
 rw [h]
 constructor
 · rintro(h | h | h | h)
   · exact .inr (.inr h)
   · exact .inl h
   · exact .inr (.inl h)
   · cases h
 · rintro(h | h | h)
   · exact .inr (.inl h)
   · exact .inr (.inr (.inl h))
   · exact .inl h
theorem turned_items (f:Frm RunV) (n ht:Nat) (x:RunV) (l r:Rt RunV):(turned f n ht x l r).items=(plug1 f (.node n ht x l r)).items:=by
 unfold turned plug1
 cases f.left <;> simp [Rt.items]
theorem plug_nd {c:List (Frm RunV)} {t:Rt RunV} (h:(plug c t).ids.Nodup):(plug c (Rt.nil:Rt RunV)).ids.Nodup:=by
 rw [plug_ids]at h ⊢
 refine h.sublist ?_
 refine List.Sublist.append (List.Sublist.append (List.Sublist.refl _) ?_) (List.Sublist.refl _)
 exact List.nil_sublist _
theorem plug_items_congr {c:List (Frm RunV)} {t u:Rt RunV} (h:t.items=u.items):(plug c t).items=(plug c u).items:=by rw [plug_items,plug_items,h]
theorem At.reup {h h':AHeap} {up up':AVal} {m mt:Nat} {x:RunV} {l r:Rt RunV} (ha:At TS h up (.node m mt x l r)) (hnd:(Rt.node m mt x l r).ids.Nodup)
 (h1:∃k,MassOf (l.rs++x :: r.rs) k∧h'.get m=some (nrow up' l.ptr r.ptr mt (l.items.length+1+r.items.length) x k)) (h2:∀o∈(Rt.node m mt x l r).ids,o≠m→h'.get o=h.get o):At TS h' up' (.node m mt x l r):=by
 obtain⟨a1,a2,a3⟩:=at_node.1 ha
 obtain⟨_,_,b1,b2,_⟩:=apart_node hnd
 exact at_node.2 ⟨h1,At.congr (fun o ho=>h2 o (by rw [ids_node];simp [ho]) (fun e=>b1 (by rw [←e];exact ho))) a2,At.congr (fun o ho=>h2 o (by rw [ids_node];simp [ho]) (fun e=>b2 (by rw [←e];exact ho))) a3⟩
structure RiseF (c:List (Frm RunV)) (f:Frm RunV) (rr n ht:Nat) (x:RunV) (l r:Rt RunV):Prop where
 ndl:l.ids.Nodup
 ndr:r.ids.Nodup
 dl:n ∉ l.ids
 dr:n ∉ r.ids
 ndc:(plug c (Rt.nil:Rt RunV)).ids.Nodup
 dnp:n≠f.o
 dpc:f.o ∉ cids c
 dnc:n ∉ cids c
 rc:rr ∉ cids c
 rn:rr≠n
 rp:rr≠f.o
 sib:∀o∈f.sib.ids,o≠n∧o ∉ l.ids∧o ∉ r.ids∧o≠f.o∧o ∉ cids c∧o≠rr
 subl:∀o∈l.ids,o≠n∧o ∉ r.ids∧o≠f.o∧o ∉ cids c∧o≠rr
 subr:∀o∈r.ids,o≠n∧o≠f.o∧o ∉ cids c∧o≠rr
theorem riseF {c:List (Frm RunV)} {f:Frm RunV} {rr n ht:Nat} {x:RunV} {l r:Rt RunV} (hnd:(plug (f :: c) (.node n ht x l r)).ids.Nodup) (hrr:rr ∉ (plug (f :: c) (.node n ht x l r)).ids):RiseF c f rr n ht x l r:=by
 obtain⟨nd1,nd2⟩:=apart_tree hnd
 obtain⟨ndl,ndr,dl,dr,dlr⟩:=apart_node nd1
 have hnd':(plug c (plug1 f (.node n ht x l r))).ids.Nodup:=hnd
 obtain⟨ndp,ndp2⟩:=apart_tree hnd'
 have mem:∀o,o∈(plug1 f (.node n ht x l r)).ids↔o=f.o∨o∈f.sib.ids∨o∈(Rt.node n ht x l r).ids:=fun o=>plug1_mem
 have hmemn:n∈(Rt.node n ht x l r).ids:=by rw [ids_node];simp
 have inl:∀o∈l.ids,o∈(Rt.node n ht x l r).ids:=fun o ho=>by rw [ids_node];simp [ho]
 have inr:∀o∈r.ids,o∈(Rt.node n ht x l r).ids:=fun o ho=>by rw [ids_node];simp [ho]
 have fo:f.o∈cids (f :: c):=cids_cons.2 (.inl rfl)
 have fs:∀o∈f.sib.ids,o∈cids (f :: c):=fun o ho=>cids_cons.2 (.inr (.inl ho))
 have fc:∀o∈cids c,o∈cids (f :: c):=fun o ho=>cids_cons.2 (.inr (.inr ho))
 rw [plug_mem]at hrr
 have r1:∀o∈(Rt.node n ht x l r).ids,o≠rr:=fun o ho e=>hrr (.inl (by rw [←e];exact ho))
 have r2:∀o∈cids (f :: c),o≠rr:=fun o ho e=>hrr (.inr (by rw [←e];exact ho))
 have sf:f.o ∉ f.sib.ids:=by
  intro hm
  unfold plug1 at ndp
  cases hl:f.left with
  | true=>rw [hl]at ndp;exact(apart_node ndp).2.2.2.1 hm
  | false=>rw [hl]at ndp;exact(apart_node ndp).2.2.1 hm
 exact {
  ndl:=ndl,ndr:=ndr,dl:=dl,dr:=dr,ndc:=plug_nd hnd'
  dnp:=fun e=>nd2 n hmemn (by rw [e];exact fo)
  dpc:=ndp2 _ ((mem _).2 (.inl rfl))
  dnc:=ndp2 _ ((mem _).2 (.inr (.inr hmemn)))
  rc:=fun h=>r2 _ (fc _ h) rfl
  rn:=fun e=>r1 n hmemn e.symm
  rp:=fun e=>r2 _ fo e.symm
  sib:=fun o ho=>⟨fun e=>nd2 n hmemn (by rw [←e];exact fs o ho),fun h=>nd2 o (inl o h) (fs o ho),fun h=>nd2 o (inr o h) (fs o ho),fun e=>sf (by rw [←e];exact ho),ndp2 _ ((mem _).2 (.inr (.inl ho))),r2 _ (fs o ho)⟩
  subl:=fun o ho=>⟨fun e=>dl (by rw [←e];exact ho),dlr o ho,fun e=>nd2 o (inl o ho) (by rw [e];exact fo),ndp2 _ ((mem _).2 (.inr (.inr (inl o ho)))),r1 _ (inl o ho)⟩
  subr:=fun o ho=>⟨fun e=>dr (by rw [←e];exact ho),fun e=>nd2 o (inr o ho) (by rw [e];exact fo),ndp2 _ ((mem _).2 (.inr (.inr (inr o ho)))),r1 _ (inr o ho)⟩ }
end Go.Proofs.YtlhlbamcgopiiaaGreatDoor
set_option linter.all false
set_option maxRecDepth 100000
set_option maxHeartbeats 4000000
namespace Go.Proofs.YtlhlbamcgopiiaaGreatDoor
open Go Go.RowKit Go.Proofs
theorem cells_ptr (t:Rt RunV):cellsV t.ptr=.ok [t.ptr]:=by cases t <;> rfl
theorem guard_ptr (t:Rt RunV):(match t.ptr,AVal.nilp with
 | .dead,x=>false
 | x,.dead=>false
 | .nili,.nili=>true
 | .agg vs,.agg vs_1=>eqL 25
 | x,x_1=>true)=true:=by cases t <;> rfl
section
variable {ro:Nat→Option (List AVal)} {z:List AVal×List AVal}
theorem fit_node2 {n p ht pht:Nat} {x px:RunV} {C A B:Rt RunV} (h:Fit (.node n ht x C (.node p pht px A B))):Fit (.node p pht px A B):=by
 unfold Fit at *
 rw [at_node_n,items_node]at h
 simp at h
 exact⟨by omega,by omega⟩
theorem fit_node1 {n p ht pht:Nat} {x px:RunV} {C A B:Rt RunV} (h:Fit (.node n ht x (.node p pht px A B) C)):Fit (.node p pht px A B):=by
 unfold Fit at *
 rw [at_node_n,items_node]at h
 simp at h
 exact⟨by omega,by omega⟩
theorem two_r {H:AHeap} {up:AVal} {p n pht ht psz nsz:Nat} {px x:RunV} {pall nall:MassV} {A B C:Rt RunV}
 (h1:H.get p=some (nrow (.ptr n 0) A.ptr B.ptr pht psz px pall)) (h2:H.get n=some (nrow up C.ptr (.ptr p 0) ht nsz x nall))
 (a1:At TS H (.ptr p 0) A) (a2:At TS H (.ptr p 0) B) (a3:At TS H (.ptr n 0) C) (d1:p ∉ A.ids) (d2:p ∉ B.ids) (d3:p ∉ C.ids) (d4:n≠p) (d5:n ∉ A.ids) (d6:n ∉ B.ids) (d7:n ∉ C.ids)
 (hlt:∀o,(o=p∨o=n∨o∈A.ids∨o∈B.ids∨o∈C.ids)→o < H.next) (hfit:Fit (.node n ht x C (.node p pht px A B))) {Q:AVal→AHeap→Prop}
 (hq:∀h',At TS h' up (.node n ht x C (.node p pht px A B))→(∀o,o < H.next→o≠p→o≠n→h'.get o=H.get o)→H.next≤h'.next→Q (.tuple []) h'):
 Ev (cfgR ro) 215 [.ptr p 0] H (fun v h2=>v=.tuple []∧Ev (cfgR ro) 215 [.ptr n 0] h2 Q):=by
 have f1:=Fit.node (fit_node2 hfit)
 have f2:=Fit.node hfit
 have lA:∀o∈A.ids,o < H.next:=fun o ho=>hlt o (.inr (.inr (.inl ho)))
 have lB:∀o∈B.ids,o < H.next:=fun o ho=>hlt o (.inr (.inr (.inr (.inl ho))))
 have lC:∀o∈C.ids,o < H.next:=fun o ho=>hlt o (.inr (.inr (.inr (.inr ho))))
 have lp:p < H.next:=hlt p (.inl rfl)
 have ln:n < H.next:=hlt n (.inr (.inl rfl))
 refine renew_ev h1 a1 a2 d1 d2 lp lA lB f1.1 f1.2 (fun h3 k3 hk3 b1 b2 b3=>⟨rfl,?_⟩)
 have c0:At TS h3 (.ptr n 0) (.node p pht px A B):=at_node.2 ⟨⟨k3,hk3,b1⟩,At.congr (fun o ho=>b2 o (lA o ho) (fun e=>d1 (by rw [←e];exact ho))) a1,At.congr (fun o ho=>b2 o (lB o ho) (fun e=>d2 (by rw [←e];exact ho))) a2⟩
 have c1:At TS h3 (.ptr n 0) C:=At.congr (fun o ho=>b2 o (lC o ho) (fun e=>d3 (by rw [←e];exact ho))) a3
 have l0:∀o∈(Rt.node p pht px A B).ids,o < h3.next:=by
  intro o ho
  rw [ids_node]at ho
  refine Nat.lt_of_lt_of_le ?_ b3
  rcases List.mem_append.1 ho with h9 | h9
  · exact lA o h9
  · rcases List.mem_cons.1 h9 with rfl | h9
    · exact lp
    · exact lB o h9
 have lC3:∀o∈C.ids,o < h3.next:=fun o ho=>Nat.lt_of_lt_of_le (lC o ho) b3
 have ln3:n < h3.next:=Nat.lt_of_lt_of_le ln b3
 have np:n ∉ (Rt.node p pht px A B).ids:=by rw [ids_node];simp [d4,d5,d6]
 have h2':h3.get n=some (nrow up C.ptr (Rt.node p pht px A B).ptr ht nsz x nall):=by rw [b2 n ln d4,h2];rfl
 refine renew_ev h2' c1 c0 d7 np ln3 lC3 l0 f2.1 f2.2 (fun h4 k4 hk4 e1 e2 e3=>?_)
 refine hq h4 (at_node.2 ⟨⟨k4,hk4,e1⟩,At.congr (fun o ho=>e2 o (lC3 o ho) (fun e=>d7 (by rw [←e];exact ho))) c1,At.congr (fun o ho=>e2 o (l0 o ho) (fun e=>np (by rw [←e];exact ho))) c0⟩) (fun o g0 g1 g2=>by rw [e2 o (Nat.lt_of_lt_of_le g0 b3) g2,b2 o g0 g1]) (Nat.le_trans b3 e3)
theorem two_l {H:AHeap} {up:AVal} {p n pht ht psz nsz:Nat} {px x:RunV} {pall nall:MassV} {A B C:Rt RunV}
 (h1:H.get p=some (nrow (.ptr n 0) A.ptr B.ptr pht psz px pall)) (h2:H.get n=some (nrow up (.ptr p 0) C.ptr ht nsz x nall))
 (a1:At TS H (.ptr p 0) A) (a2:At TS H (.ptr p 0) B) (a3:At TS H (.ptr n 0) C) (d1:p ∉ A.ids) (d2:p ∉ B.ids) (d3:p ∉ C.ids) (d4:n≠p) (d5:n ∉ A.ids) (d6:n ∉ B.ids) (d7:n ∉ C.ids)
 (hlt:∀o,(o=p∨o=n∨o∈A.ids∨o∈B.ids∨o∈C.ids)→o < H.next) (hfit:Fit (.node n ht x (.node p pht px A B) C)) {Q:AVal→AHeap→Prop}
 (hq:∀h',At TS h' up (.node n ht x (.node p pht px A B) C)→(∀o,o < H.next→o≠p→o≠n→h'.get o=H.get o)→H.next≤h'.next→Q (.tuple []) h'):
 Ev (cfgR ro) 215 [.ptr p 0] H (fun v h2=>v=.tuple []∧Ev (cfgR ro) 215 [.ptr n 0] h2 Q):=by
 have f1:=Fit.node (fit_node1 hfit)
 have f2:=Fit.node hfit
 have lA:∀o∈A.ids,o < H.next:=fun o ho=>hlt o (.inr (.inr (.inl ho)))
 have lB:∀o∈B.ids,o < H.next:=fun o ho=>hlt o (.inr (.inr (.inr (.inl ho))))
 have lC:∀o∈C.ids,o < H.next:=fun o ho=>hlt o (.inr (.inr (.inr (.inr ho))))
 have lp:p < H.next:=hlt p (.inl rfl)
 have ln:n < H.next:=hlt n (.inr (.inl rfl))
 refine renew_ev h1 a1 a2 d1 d2 lp lA lB f1.1 f1.2 (fun h3 k3 hk3 b1 b2 b3=>⟨rfl,?_⟩)
 have c0:At TS h3 (.ptr n 0) (.node p pht px A B):=at_node.2 ⟨⟨k3,hk3,b1⟩,At.congr (fun o ho=>b2 o (lA o ho) (fun e=>d1 (by rw [←e];exact ho))) a1,At.congr (fun o ho=>b2 o (lB o ho) (fun e=>d2 (by rw [←e];exact ho))) a2⟩
 have c1:At TS h3 (.ptr n 0) C:=At.congr (fun o ho=>b2 o (lC o ho) (fun e=>d3 (by rw [←e];exact ho))) a3
 have l0:∀o∈(Rt.node p pht px A B).ids,o < h3.next:=by
  intro o ho
  rw [ids_node]at ho
  refine Nat.lt_of_lt_of_le ?_ b3
  rcases List.mem_append.1 ho with h9 | h9
  · exact lA o h9
  · rcases List.mem_cons.1 h9 with rfl | h9
    · exact lp
    · exact lB o h9
 have lC3:∀o∈C.ids,o < h3.next:=fun o ho=>Nat.lt_of_lt_of_le (lC o ho) b3
 have ln3:n < h3.next:=Nat.lt_of_lt_of_le ln b3
 have np:n ∉ (Rt.node p pht px A B).ids:=by rw [ids_node];simp [d4,d5,d6]
 have h2':h3.get n=some (nrow up (Rt.node p pht px A B).ptr C.ptr ht nsz x nall):=by rw [b2 n ln d4,h2];rfl
 refine renew_ev h2' c0 c1 np d7 ln3 l0 lC3 f2.1 f2.2 (fun h4 k4 hk4 e1 e2 e3=>?_)
 refine hq h4 (at_node.2 ⟨⟨k4,hk4,e1⟩,At.congr (fun o ho=>e2 o (l0 o ho) (fun e=>np (by rw [←e];exact ho))) c0,At.congr (fun o ho=>e2 o (lC3 o ho) (fun e=>d7 (by rw [←e];exact ho))) c1⟩) (fun o g0 g1 g2=>by rw [e2 o (Nat.lt_of_lt_of_le g0 b3) g2,b2 o g0 g1]) (Nat.le_trans b3 e3)
end
end Go.Proofs.YtlhlbamcgopiiaaGreatDoor
set_option linter.all false
set_option maxRecDepth 100000
set_option maxHeartbeats 4000000
namespace Go.Proofs.YtlhlbamcgopiiaaGreatDoor
open Go Go.RowKit Go.Proofs
section
variable {ro:Nat→Option (List AVal)} {z:List AVal×List AVal}
theorem turned_join {h:AHeap} {c:List (Frm RunV)} {f:Frm RunV} {n ht:Nat} {x:RunV} {l r:Rt RunV} (h1:At TS h (upOf c) (turned f n ht x l r)) (h2:CX h c (itf f (Rt.node n ht x l r).items) (.ptr n 0)):At TS h .nilp (plug c (turned f n ht x l r))∧(plug c (turned f n ht x l r)).ptr=rootOf c (.ptr n 0):=by
 have e:(turned f n ht x l r).ptr=.ptr n 0:=by unfold turned;cases f.left <;> rfl
 refine⟨CX.join h1 ?_,by rw [plug_ptr,e]⟩
 rw [turned_items,←itf_items,e]
 exact h2
theorem turned_fit {c:List (Frm RunV)} {f:Frm RunV} {n ht:Nat} {x:RunV} {l r:Rt RunV} (h:Fit (plug (f :: c) (.node n ht x l r))):Fit (turned f n ht x l r):=by
 have h1:Fit (plug1 f (.node n ht x l r)):=Fit.sub (c:=c) h
 unfold Fit Rt.at_ Rt.rs at *
 rw [turned_items]
 exact h1
theorem rise_ev {h:AHeap} {c:List (Frm RunV)} {f:Frm RunV} {rr n ht:Nat} {s:Int} {x:RunV} {l r:Rt RunV}
 (hat:At TS h .nilp (plug (f :: c) (.node n ht x l r))) (hroot:h.get rr=some (rrow z (plug (f :: c) (.node n ht x l r)).ptr s)) (F:RiseF c f rr n ht x l r)
 (hlt:∀o∈(plug (f :: c) (.node n ht x l r)).ids,o < h.next) (hlr:rr < h.next) (hfit:Fit (plug (f :: c) (.node n ht x l r))) {Q:AVal→AHeap→Prop}
 (hq:∀h',At TS h' .nilp (plug c (turned f n ht x l r))→h'.get rr=some (rrow z (plug c (turned f n ht x l r)).ptr s)→(∀o,o < h.next→o≠rr→o ∉ (plug (f :: c) (.node n ht x l r)).ids→h'.get o=h.get o)→h.next≤h'.next→Q (.tuple []) h'):
 Ev (cfgR ro) 212 [.ptr rr z.1.length,.ptr n 0] h Q:=by
 refine Ev.wp rfl rfl Tryz.func212 rfl ?_
 obtain⟨hn,hc⟩:=CX.split hat
 obtain⟨⟨nall,hnall,n1⟩,n2,n3⟩:=at_node.1 hn
 obtain⟨⟨pall,hpall,p1⟩,p2,p3⟩:=hc
 obtain⟨J,hJ⟩:∃J,J=itf f (Rt.node n ht x l r).items:=⟨_,rfl⟩
 obtain⟨psz,hsz⟩:∃sz,sz=J.length:=⟨_,rfl⟩
 obtain⟨nsz,hnsz⟩:∃sz,sz=l.items.length+1+r.items.length:=⟨_,rfl⟩
 rw [←hJ,←hsz]at p1
 rw [←hJ]at p3
 rw [←hnsz]at n1
 rw [plug_ptr,rootOf]at hroot
 have n1':=n1
 rw [nrow]at n1'
 simp -implicitDefEqProofs [Tryz.f212,n1',upOf]
 refine hang_ev (n:=n) (old:=f.o) hroot p1 n1 p3 F.dnp F.dpc F.dnc F.rc F.rn F.rp F.ndc (fun h1 g1 g2 g3 g4 g5=>?_)
 have q1:h1.get f.o=some (nrow (upOf c) (lptr f (.ptr n 0)) (rptr' f (.ptr n 0)) f.ht psz f.x pall):=by rw [g4 _ (Ne.symm F.dnp) (Ne.symm F.rp) F.dpc];exact p1
 have kl:At TS h1 (.ptr n 0) l:=At.congr (fun o ho=>g4 o (F.subl o ho).1 (F.subl o ho).2.2.2.2 (F.subl o ho).2.2.2.1) n2
 have kr:At TS h1 (.ptr n 0) r:=At.congr (fun o ho=>g4 o (F.subr o ho).1 (F.subr o ho).2.2.2 (F.subr o ho).2.2.1) n3
 have ks:At TS h1 (.ptr f.o 0) f.sib:=At.congr (fun o ho=>g4 o (F.sib o ho).1 (F.sib o ho).2.2.2.2.2 (F.sib o ho).2.2.2.2.1) p2
 have np:=F.dnp
 have memp:∀o,o ∉ (plug (f :: c) (.node n ht x l r)).ids→o≠f.o∧o≠n∧o ∉ l.ids∧o ∉ r.ids∧o ∉ cids c:=by
  intro o ho
  rw [plug_mem,ids_node,cids_cons]at ho
  simp at ho
  refine⟨ho.2.1,ho.1.2.1,ho.1.1,ho.1.2.2,ho.2.2.2⟩
 have tf:=turned_fit hfit
 have hsibp:f.o ∉ f.sib.ids:=fun hm=>(F.sib _ hm).2.2.2.1 rfl
 have hlp:f.o ∉ l.ids:=fun hm=>(F.subl _ hm).2.2.1 rfl
 have hrp:f.o ∉ r.ids:=fun hm=>(F.subr _ hm).2.1 rfl
 have hsn:n ∉ f.sib.ids:=fun hm=>(F.sib _ hm).1 rfl
 have hall:∀o,(o=f.o∨o=n∨o∈l.ids∨o∈r.ids∨o∈f.sib.ids∨o∈cids c)→o < h1.next:=by
  intro o ho
  rw [g5]
  refine hlt o ?_
  rw [plug_mem,ids_node,cids_cons]
  rcases ho with rfl | rfl | h9 | h9 | h9 | h9
  · exact .inr (.inl rfl)
  · exact .inl (by simp)
  · exact .inl (by simp [h9])
  · exact .inl (by simp [h9])
  · exact .inr (.inr (.inl h9))
  · exact .inr (.inr (.inr h9))
 have fin:∀H h':AHeap,(∀o,o≠f.o→o≠n→o ∉ l.ids→o ∉ r.ids→H.get o=h1.get o)→H.next=h1.next→At TS h' (upOf c) (turned f n ht x l r)→(∀o,o < H.next→o≠f.o→o≠n→h'.get o=H.get o)→H.next≤h'.next→Q (.tuple []) h':=by
  intro H h' k1 k2 k3 k4 k5
  have g3':CX h' c J (.ptr n 0):=CX.congr (fun o ho=>by rw [k4 o (by rw [k2];exact hall o (.inr (.inr (.inr (.inr (.inr ho)))))) (fun e=>F.dpc (by rw [←e];exact ho)) (fun e=>F.dnc (by rw [←e];exact ho)),k1 o (fun e=>F.dpc (by rw [←e];exact ho)) (fun e=>F.dnc (by rw [←e];exact ho)) (fun hm=>(F.subl o hm).2.2.2.1 ho) (fun hm=>(F.subr o hm).2.2.1 ho)]) g3
  obtain⟨j1,j2⟩:=turned_join k3 (hJ ▸ g3')
  refine hq h' j1 ?_ (fun o a0 a1 a2=>?_) (by rw [←g5,←k2];exact k5)
  · rw [j2,k4 rr (by rw [k2,g5];exact hlr) F.rp F.rn,k1 rr F.rp F.rn (fun hm=>(F.subl _ hm).2.2.2.2 rfl) (fun hm=>(F.subr _ hm).2.2.2 rfl),g2]
  · obtain⟨b1,b2,b3,b4,b5⟩:=memp o a2
    rw [k4 o (by rw [k2,g5];exact a0) b1 b2,k1 o b1 b2 b3 b4,g4 o b2 a1 b5]
 cases hl:f.left with
 | true=>
  have e1:lptr f (.ptr n 0)=.ptr n 0:=by simp only [lptr,hl]
  have e2:rptr' f (.ptr n 0)=f.sib.ptr:=by simp only [rptr',hl]
  have et:turned f n ht x l r=.node n ht x l (.node f.o f.ht f.x r f.sib):=by unfold turned;rw [hl]
  rw [et]at fin tf
  have go:∀H:AHeap,H.get f.o=some (nrow (.ptr n 0) r.ptr f.sib.ptr f.ht psz f.x pall)→H.get n=some (nrow (upOf c) l.ptr (.ptr f.o 0) ht nsz x nall)→At TS H (.ptr f.o 0) r→(∀o,o≠f.o→o≠n→o ∉ r.ids→H.get o=h1.get o)→H.next=h1.next→
   Ev (cfgR ro) 215 [.ptr f.o 0] H (fun v h2=>v=.tuple []∧Ev (cfgR ro) 215 [.ptr n 0] h2 (fun v h3=>v=.tuple []∧Q (.tuple []) h3)):=by
   intro H b1 b2 b3 b4 b5
   refine two_r b1 b2 b3 (At.congr (fun o ho=>b4 o (fun e=>hsibp (by rw [←e];exact ho)) (fun e=>hsn (by rw [←e];exact ho)) (F.sib o ho).2.2.1) ks) (At.congr (fun o ho=>b4 o (fun e=>hlp (by rw [←e];exact ho)) (fun e=>F.dl (by rw [←e];exact ho)) (F.subl o ho).2.1) kl) hrp hsibp hlp np F.dr hsn F.dl (fun o ho=>by rw [b5];exact hall o (by rcases ho with h9 | h9 | h9 | h9 | h9 <;> simp [h9])) tf (fun h' c1 c2 c3=>⟨rfl,?_⟩)
   exact fin H h' (fun o t1 t2 t3 t4=>b4 o t1 t2 t4) b5 c1 c2 c3
  rw [e1,e2,nrow]at q1
  rw [nrow]at g1
  cases r with
  | nil=>
   rw [ptr_nil]at g1
   simp -implicitDefEqProofs [q1,ptrEq_self,g1,get_set_ne (Ne.symm np),get_set_ne np]
   refine Ev.mono (go _ ?_ ?_ ?_ ?_ ?_) ?_
   · rw [get_set_self];rfl
   · rw [get_set_ne (Ne.symm np),get_set_self,nrow]
   · trivial
   · intro o o1 o2 _
     rw [get_set_ne (Ne.symm o1),get_set_ne (Ne.symm o2),get_set_ne (Ne.symm o1)]
   · rfl
   · rintro v h2 ⟨rfl,q⟩
     simp -implicitDefEqProofs
     refine Ev.mono q ?_
     rintro v h3 ⟨rfl,q3⟩
     simp -implicitDefEqProofs
     exact q3
  | node m mt mx ml mr=>
   have km:m∈(Rt.node m mt mx ml mr).ids:=by rw [ids_node];simp
   obtain⟨mn,mp,mc,mr'⟩:=F.subr m km
   obtain⟨⟨mall,hmall,kr1⟩,kr2,kr3⟩:=at_node.1 kr
   rw [nrow]at kr1
   rw [ptr_node]at g1
   simp -implicitDefEqProofs [q1,ptrEq_self,g1,kr1,get_set_ne (Ne.symm np),get_set_ne np,get_set_ne (Ne.symm mn),get_set_ne mn,get_set_ne (Ne.symm mp),get_set_ne mp]
   refine Ev.mono (go _ ?_ ?_ ?_ ?_ ?_) ?_
   · rw [get_set_self];rfl
   · rw [get_set_ne (Ne.symm np),get_set_self,nrow]
   · refine At.reup kr F.ndr ?_ ?_
     · exact⟨mall,hmall,by rw [get_set_ne (Ne.symm mp),get_set_ne (Ne.symm mn),get_set_self];simp [nrow]⟩
     · intro o ho om
       obtain⟨on,op⟩:o≠n∧o≠f.o:=⟨(F.subr o ho).1,(F.subr o ho).2.1⟩
       rw [get_set_ne (Ne.symm op),get_set_ne (Ne.symm on),get_set_ne (Ne.symm om),get_set_ne (Ne.symm op)]
   · intro o o1 o2 o3
     have om:o≠m:=fun e=>o3 (by rw [e];exact km)
     rw [get_set_ne (Ne.symm o1),get_set_ne (Ne.symm o2),get_set_ne (Ne.symm om),get_set_ne (Ne.symm o1)]
   · rfl
   · rintro v h2 ⟨rfl,q⟩
     simp -implicitDefEqProofs
     refine Ev.mono q ?_
     rintro v h3 ⟨rfl,q3⟩
     simp -implicitDefEqProofs
     exact q3
 | false=>
  have e1:lptr f (.ptr n 0)=f.sib.ptr:=by simp only [lptr,hl]
  have e2:rptr' f (.ptr n 0)=.ptr n 0:=by simp only [rptr',hl]
  have et:turned f n ht x l r=.node n ht x (.node f.o f.ht f.x f.sib l) r:=by unfold turned;rw [hl]
  rw [et]at fin tf
  have go:∀H:AHeap,H.get f.o=some (nrow (.ptr n 0) f.sib.ptr l.ptr f.ht psz f.x pall)→H.get n=some (nrow (upOf c) (.ptr f.o 0) r.ptr ht nsz x nall)→At TS H (.ptr f.o 0) l→(∀o,o≠f.o→o≠n→o ∉ l.ids→H.get o=h1.get o)→H.next=h1.next→
   Ev (cfgR ro) 215 [.ptr f.o 0] H (fun v h2=>v=.tuple []∧Ev (cfgR ro) 215 [.ptr n 0] h2 (fun v h3=>v=.tuple []∧Q (.tuple []) h3)):=by
   intro H b1 b2 b3 b4 b5
   refine two_l b1 b2 (At.congr (fun o ho=>b4 o (fun e=>hsibp (by rw [←e];exact ho)) (fun e=>hsn (by rw [←e];exact ho)) (F.sib o ho).2.1) ks) b3 (At.congr (fun o ho=>b4 o (fun e=>hrp (by rw [←e];exact ho)) (fun e=>F.dr (by rw [←e];exact ho)) (fun hm=>(F.subl o hm).2.1 ho)) kr) hsibp hlp hrp np hsn F.dl F.dr (fun o ho=>by rw [b5];exact hall o (by rcases ho with h9 | h9 | h9 | h9 | h9 <;> simp [h9])) tf (fun h' c1 c2 c3=>⟨rfl,?_⟩)
   exact fin H h' (fun o t1 t2 t3 t4=>b4 o t1 t2 t3) b5 c1 c2 c3
  rw [e1,e2,nrow]at q1
  rw [nrow]at g1
  have heq:=eq_place (ro:=ro) ks (fun hm=>(F.sib n hm).1 rfl) g1
  cases l with
  | nil=>
   rw [ptr_nil]at g1
   simp -implicitDefEqProofs [q1,heq,guard_ptr,cells_ptr,ptrEq_self,g1,get_set_ne (Ne.symm np),get_set_ne np]
   refine⟨by cases f.sib <;> simp [Rt.ptr],?_⟩
   refine Ev.mono (go _ ?_ ?_ ?_ ?_ ?_) ?_
   · rw [get_set_self];rfl
   · rw [get_set_ne (Ne.symm np),get_set_self,nrow]
   · trivial
   · intro o o1 o2 _
     rw [get_set_ne (Ne.symm o1),get_set_ne (Ne.symm o2),get_set_ne (Ne.symm o1)]
   · rfl
   · rintro v h2 ⟨rfl,q⟩
     simp -implicitDefEqProofs
     refine Ev.mono q ?_
     rintro v h3 ⟨rfl,q3⟩
     simp -implicitDefEqProofs
     exact q3
  | node m mt mx ml mr=>
   have km:m∈(Rt.node m mt mx ml mr).ids:=by rw [ids_node];simp
   obtain⟨mn,_,mp,mc,mr'⟩:=F.subl m km
   obtain⟨⟨mall,hmall,kr1⟩,kr2,kr3⟩:=at_node.1 kl
   rw [nrow]at kr1
   rw [ptr_node]at g1
   simp -implicitDefEqProofs [q1,heq,guard_ptr,cells_ptr,ptrEq_self,g1,kr1,get_set_ne (Ne.symm np),get_set_ne np,get_set_ne (Ne.symm mn),get_set_ne mn,get_set_ne (Ne.symm mp),get_set_ne mp]
   refine⟨by cases f.sib <;> simp [Rt.ptr],?_⟩
   refine Ev.mono (go _ ?_ ?_ ?_ ?_ ?_) ?_
   · rw [get_set_self];rfl
   · rw [get_set_ne (Ne.symm np),get_set_self,nrow]
   · refine At.reup kl F.ndl ?_ ?_
     · exact⟨mall,hmall,by rw [get_set_ne (Ne.symm mp),get_set_ne (Ne.symm mn),get_set_self];simp [nrow]⟩
     · intro o ho om
       obtain⟨on,op⟩:o≠n∧o≠f.o:=⟨(F.subl o ho).1,(F.subl o ho).2.2.1⟩
       rw [get_set_ne (Ne.symm op),get_set_ne (Ne.symm on),get_set_ne (Ne.symm om),get_set_ne (Ne.symm op)]
   · intro o o1 o2 o3
     have om:o≠m:=fun e=>o3 (by rw [e];exact km)
     rw [get_set_ne (Ne.symm o1),get_set_ne (Ne.symm o2),get_set_ne (Ne.symm om),get_set_ne (Ne.symm o1)]
   · rfl
   · rintro v h2 ⟨rfl,q⟩
     simp -implicitDefEqProofs
     refine Ev.mono q ?_
     rintro v h3 ⟨rfl,q3⟩
     simp -implicitDefEqProofs
     exact q3
end
end Go.Proofs.YtlhlbamcgopiiaaGreatDoor
set_option linter.all false
set_option maxRecDepth 100000
set_option maxHeartbeats 4000000
namespace Go.Proofs.YtlhlbamcgopiiaaGreatDoor
open Go Go.RowKit Go.Proofs
section
variable {c:Cfg} {f:Nat} {K:List AVal→AHeap→Prop} {E:Nat→List AVal→AHeap→Prop} {R:List AVal→AHeap→Prop} {G:Nat→List AVal→AHeap→Prop}
theorem scope_loop {l:Nat} {rest:Code} (I:Nat→List AVal→AHeap→Prop)
 (hI:∀n env h,(∀m,m < n→∀env h,I m env h→scpG c f K E R G ((Code.label l).seq rest) l env h)→I n env h→wp c f rest K E R (scpG c f K E R G ((Code.label l).seq rest)) env h) (n:Nat) {env:List AVal} {h:AHeap} (h0:I n env h):
 wp c f (.label l) (seqK c f K E R (scpG c f K E R G ((Code.label l).seq rest)) rest) E R (scpG c f K E R G ((Code.label l).seq rest)) env h:=by
 have hl:findLabel ((Code.label l).seq rest) l=some (Code.skip.seq rest):=by simp [findLabel]
 have key:∀n {env:List AVal} {h:AHeap},I n env h→scpG c f K E R G ((Code.label l).seq rest) l env h:=by
  intro n
  induction n using Nat.strongRecOn with
  | _ n ih=>
   intro env h h0
   unfold scpG
   rw [hl]
   exact label_of (rest:=Code.skip.seq rest) (hI n env h (fun m hm env h q=>ih m hm q) h0)
 exact hI n env h (fun m _ env h q=>key m q) h0
end
theorem xor_nat (a b:Int):∃v:Nat,ixor .u64 a b=v:=by
 unfold ixor
 rw [wrap64]
 exact⟨Int.toNat _,(Int.toNat_of_nonneg (Int.emod_nonneg _ (by decide))).symm⟩
section
variable {ro:Nat→Option (List AVal)} {z:List AVal×List AVal}
theorem below_ev {h:AHeap} {n m ht sz mt ms:Nat} {u l r mu ml mr:AVal} {x mx:RunV} {all mall:MassV} (b:Bool) (hn:h.get n=some (nrow u l r ht sz x all)) (hm:h.get m=some (nrow mu ml mr mt ms mx mall)) (d:n≠m) {Q:AVal→AHeap→Prop}
 (hq:∀h',h'.get n=some (nrow (.ptr m 0) l r ht sz x all)→h'.get m=some (nrow mu (if b then .ptr n 0 else ml) (if b then mr else .ptr n 0) mt ms mx mall)→(∀o,o≠n→o≠m→h'.get o=h.get o)→h'.next=h.next→Q (.tuple []) h'):Ev (cfgR ro) 211 [.ptr n 0,.ptr m 0,.bool b] h Q:=by
 refine Ev.wp rfl rfl Tryz.func211 rfl ?_
 rw [nrow]at hn hm
 cases b with
 | true=>
  simp -implicitDefEqProofs [Tryz.f211,hn,hm,get_set_ne d,get_set_ne (Ne.symm d)]
  refine hq _ ?_ ?_ (fun o a b=>?_) rfl
  · rw [get_set_ne (Ne.symm d),get_set_self];rfl
  · rw [get_set_self];rfl
  · rw [get_set_ne (Ne.symm b),get_set_ne (Ne.symm a)]
 | false=>
  simp -implicitDefEqProofs [Tryz.f211,hn,hm,get_set_ne d,get_set_ne (Ne.symm d)]
  refine hq _ ?_ ?_ (fun o a b=>?_) rfl
  · rw [get_set_ne (Ne.symm d),get_set_self];rfl
  · rw [get_set_self];rfl
  · rw [get_set_ne (Ne.symm b),get_set_ne (Ne.symm a)]
theorem draw_ev {h:AHeap} {rr:Nat} {p:AVal} {s:Int} (hr:h.get rr=some (rrow z p s)) {Q:AVal→AHeap→Prop}
 (hq:∀(v:Nat) (s':Int),Q (.int .u64 v) (h.set rr (rrow z p s'))):Ev (cfgR ro) 210 [.ptr rr z.1.length] h Q:=by
 refine Ev.wp rfl rfl Tryz.func210 rfl ?_
 rw [rrow]at hr
 simp -implicitDefEqProofs [Tryz.f210,hr]
 obtain⟨v,hv⟩:=xor_nat (IntKind.u64.wrap (ixor .u64 (IntKind.u64.wrap (s+11400714819323198485)) (ishr .u64 (IntKind.u64.wrap (s+11400714819323198485)) 30) * 13787848793156543929)) (ishr .u64 (IntKind.u64.wrap (ixor .u64 (IntKind.u64.wrap (s+11400714819323198485)) (ishr .u64 (IntKind.u64.wrap (s+11400714819323198485)) 30) * 13787848793156543929)) 27)
 rw [hv]
 exact hq v _
def Rt.lm:Rt RunV→AVal
 | .nil=>.nilp
 | .node o _ _ .nil _=>.ptr o 0
 | .node _ _ _ (.node o2 h2 x2 l2 r2) _=>Rt.lm (.node o2 h2 x2 l2 r2)
theorem leftmost_ev {h:AHeap} {up:AVal} {t:Rt RunV} (ha:At TS h up t) {Q:AVal→AHeap→Prop} (hq:Q t.lm h):Ev (cfgR ro) 171 [t.ptr] h Q:=by
 refine Ev.wp rfl rfl Tryz.func171 rfl ?_
 simp -implicitDefEqProofs [Tryz.f171]
 refine scope_loop (fun m env h'=>h'=h∧∃t' up,At TS h up t'∧t'.lm=t.lm∧m=t'.items.length∧env=(t'.ptr :: .dead :: .dead :: .dead :: .dead :: .dead :: .dead :: .dead :: .dead :: .dead :: .dead :: .dead :: .dead :: .dead :: .dead :: .dead :: .dead :: [])) ?_ _ ⟨rfl,t,up,ha,rfl,rfl,rfl⟩
 rintro m env h' ih ⟨rfl,t',up',ha',hlm,rfl,rfl⟩
 cases t' with
 | nil=>
  simp -implicitDefEqProofs [Rt.ptr]
  rw [←hlm]at hq
  exact hq
 | node o ht x l r=>
  obtain⟨⟨am,ham,a1⟩,a2,a3⟩:=at_node.1 ha'
  rw [nrow]at a1
  cases l with
  | nil=>
   rw [ptr_nil]at a1
   simp -implicitDefEqProofs [ptr_node,a1]
   rw [←hlm]at hq
   exact hq
  | node o2 h2 x2 l2 r2=>
   rw [ptr_node]at a1
   simp -implicitDefEqProofs [ptr_node,a1]
   refine ih _ ?_ _ _ ⟨rfl,_,_,a2,by rw [←hlm];rfl,rfl,rfl⟩
   simp [Rt.items]
end
end Go.Proofs.YtlhlbamcgopiiaaGreatDoor
set_option linter.all false
set_option maxRecDepth 100000
set_option maxHeartbeats 4000000
namespace Go.Proofs.YtlhlbamcgopiiaaGreatDoor
open Go Go.RowKit Go.Proofs
structure Rp (z:List AVal×List AVal) (h:AHeap) (rr:Nat) (t:Rt RunV):Prop where
 root:∃s,h.get rr=some (rrow z t.ptr s)
 tree:At TS h .nilp t
 nd:t.ids.Nodup
 rt:rr ∉ t.ids
 lr:rr < h.next
 lt:∀o∈t.ids,o < h.next
theorem plug_append:∀(c1 c2:List (Frm RunV)) (t:Rt RunV),plug (c1++c2) t=plug c2 (plug c1 t)
 | [],_,_=>rfl
 | f :: c1,c2,t=>plug_append c1 c2 (plug1 f t)
theorem bef_append:∀(c1 c2:List (Frm RunV)),bef (c1++c2)=bef c2++bef c1
 | [],c2=>by simp [bef]
 | f :: c1,c2=>by
  show bef (c1++c2)++_=bef c2++(bef c1++_)
  rw [bef_append c1 c2,List.append_assoc]
theorem hole_left:∀(t:Rt RunV),t≠.nil→∃f c,plug (f :: c) Rt.nil=t∧bef (f :: c)=[]∧f.left=true∧t.lm=.ptr f.o 0
 | .nil,h=>(h rfl).elim
 | .node o ht x .nil r,_=>⟨⟨o,ht,x,true,r⟩,[],rfl,rfl,rfl,rfl⟩
 | .node o ht x (.node o2 h2 x2 l2 r2) r,_=>by
  obtain⟨f,c,h1,h2',h3,h4⟩:=hole_left (.node o2 h2 x2 l2 r2) (by simp)
  refine⟨f,c++[⟨o,ht,x,true,r⟩],?_,?_,h3,h4⟩
  · rw [←List.cons_append,plug_append,h1];rfl
  · rw [←List.cons_append,bef_append,h2'];rfl
theorem place:∀{t:Rt RunV} {o:Nat} {x:RunV} {L1 L2:List (Nat×RunV)},t.items=L1++(o,x) :: L2→t.ids.Nodup→∃c ht l r,t=plug c (.node o ht x l r)∧bef c++l.items=L1:=by
 intro t
 induction t with
 | nil=>intro o x L1 L2 h _;cases L1 <;> cases h
 | node q ht y l r ihl ihr=>
  intro o x L1 L2 h hnd
  rw [items_node]at h
  rw [List.append_eq_append_iff]at h
  obtain⟨ndl,ndr,_,_,_⟩:=apart_node hnd
  rcases h with ⟨us,h1,h2⟩ | ⟨bs,h1,h2⟩
  · cases us with
    | nil=>
     cases h2
     exact⟨[],ht,l,r,rfl,by simpa [bef] using h1.symm⟩
    | cons a us=>
     simp only [List.cons_append,List.cons.injEq]at h2
     obtain⟨rfl,h2⟩:=h2
     obtain⟨c,ht',l',r',e1,e2⟩:=ihr h2 ndr
     refine⟨c++[⟨q,ht,y,false,l⟩],ht',l',r',?_,?_⟩
     · rw [plug_append,←e1];rfl
     · rw [bef_append,List.append_assoc,e2,h1]
       show([]++(l.items++[(q,y)]))++us=_
       simp
  · cases bs with
    | nil=>
     cases h2
     exact⟨[],ht,l,r,rfl,by simpa [bef] using h1⟩
    | cons b bs=>
     simp only [List.cons_append,List.cons.injEq]at h2
     obtain⟨rfl,h2⟩:=h2
     obtain⟨c,ht',l',r',e1,e2⟩:=ihl h1 ndl
     refine⟨c++[⟨q,ht,y,true,r⟩],ht',l',r',?_,?_⟩
     · rw [plug_append,←e1];rfl
     · rw [bef_append,List.append_assoc,e2];rfl
section
variable {ro:Nat→Option (List AVal)} {z:List AVal×List AVal}
theorem first_ev {h:AHeap} {rr:Nat} {s:Int} {t:Rt RunV} (hr:h.get rr=some (rrow z t.ptr s)) (ha:At TS h .nilp t) {Q:AVal→AHeap→Prop} (hq:Q t.lm h):Ev (cfgR ro) 127 [.ptr rr z.1.length] h Q:=by
 refine Ev.wp rfl rfl Tryz.func127 rfl ?_
 rw [rrow]at hr
 simp -implicitDefEqProofs [Tryz.f127,hr]
 refine leftmost_ev ha ?_
 simp -implicitDefEqProofs
 exact hq
theorem hung {h h':AHeap} {f:Frm RunV} {c:List (Frm RunV)} {n v:Nat} {x:RunV} {u l r:AVal} {ht sz:Nat} {mx:RunV} {mall:MassV}
 (ha:At TS h .nilp (plug (f :: c) Rt.nil)) (hnd:(plug (f :: c) (Rt.nil:Rt RunV)).ids.Nodup) (hn:n ∉ (plug (f :: c) (Rt.nil:Rt RunV)).ids) (hm:h.get f.o=some (nrow u l r ht sz mx mall))
 (g1:h'.get n=some (nrow (.ptr f.o 0) .nilp .nilp v 0 x ⟨0,0,0,0,0,0⟩)) (g2:h'.get f.o=some (nrow u (if f.left then .ptr n 0 else l) (if f.left then r else .ptr n 0) ht sz mx mall)) (g3:∀o,o≠n→o≠f.o→h'.get o=h.get o):Stl h' (f :: c) n v x .nil .nil:=by
 obtain⟨_,⟨sz',all,⟨q,mq,hq0,hall⟩,p1⟩,p2,p3⟩:=At.split (t:=Rt.nil) ha
 rw [hall,nobj_row,hm]at p1
 have hnd':(plug c (plug1 f (Rt.nil:Rt RunV))).ids.Nodup:=hnd
 obtain⟨nd1,nd2⟩:=apart_tree hnd'
 have hfs:f.o ∉ f.sib.ids:=by
  intro hm
  unfold plug1 at nd1
  cases hl:f.left with
  | true=>rw [hl]at nd1;exact(apart_node nd1).2.2.2.1 hm
  | false=>rw [hl]at nd1;exact(apart_node nd1).2.2.1 hm
 have hfc:f.o ∉ cids c:=nd2 _ (plug1_mem.2 (.inl rfl))
 have hn':n ∉ cids (f :: c):=fun hm=>hn (plug_mem.2 (.inr hm))
 refine⟨⟨0,_,g1⟩,trivial,trivial,⟨sz',all,⟨q,mq,hq0,hall⟩,?_⟩,?_,?_⟩
 · rw [hall,nobj_row,g2]
   simp only [nrow,Option.some.injEq,AObj.row.injEq,List.cons.injEq,true_and,and_true]at p1 ⊢
   obtain⟨q1,q2,q3,q4,q5,q6,q7⟩:=p1
   refine⟨q1,?_,?_,q4,q5,q6,q7⟩
   · unfold lptr at q2 ⊢;cases hl:f.left <;> simp [hl]at q2 ⊢;exact q2
   · unfold rptr' at q3 ⊢;cases hl:f.left <;> simp [hl]at q3 ⊢;exact q3
 · exact At.congr (fun o ho=>g3 o (fun e=>hn' (cids_cons.2 (.inr (.inl (by rw [←e];exact ho))))) (fun e=>hfs (by rw [←e];exact ho))) p2
 · exact CA.congr (fun o ho=>g3 o (fun e=>hn' (cids_cons.2 (.inr (.inr (by rw [←e];exact ho))))) (fun e=>hfc (by rw [←e];exact ho))) p3
end
end Go.Proofs.YtlhlbamcgopiiaaGreatDoor
set_option linter.all false
set_option maxRecDepth 100000
set_option maxHeartbeats 4000000
namespace Go.Proofs.YtlhlbamcgopiiaaGreatDoor
open Go Go.RowKit Go.Proofs
section
variable {ro:Nat→Option (List AVal)} {z:List AVal×List AVal}
theorem put0 {h:AHeap} {rr:Nat} {t:Rt RunV} {x:RunV} {after:AVal} {L1 L2:List (Nat×RunV)} (R:Rp z h rr t) (hit:t.items=L1++L2)
 (hfit:t.items.length+1 < 2 ^ 38∧t.at_+x.text.length < 2 ^ 38)
 (W:t=.nil∨(∃f c,plug (f :: c) Rt.nil=t∧bef (f :: c)=L1∧(∃o,t.ptr=.ptr o 0)∧((after=.nilp∧f.left=true∧t.lm=.ptr f.o 0)∨
   (∃c0 a ht ax l r,after=.ptr a 0∧t=plug c0 (.node a ht ax l r)∧((r=.nil∧f.left=false∧f.o=a)∨(∃o,r.ptr=.ptr o 0∧f.left=true∧r.lm=.ptr f.o 0))))))
 {Q:AVal→AHeap→Prop}
 (hq:∀n h' t',Rp z h' rr t'→t'.items=L1++(n,x) :: L2→h.next≤n→(∀o,o < h.next→o≠rr→o ∉ t.ids→h'.get o=h.get o)→h.next≤h'.next→Q (.ptr n 0) h'):Ev (cfgR ro) 188 [.ptr rr z.1.length,after,.agg x.cells] h Q:=by
 obtain⟨⟨s,hr⟩,ha,hnd,hrt,hlr,hlt⟩:=R
 refine Ev.wp rfl rfl Tryz.func188 rfl ?_
 simp -implicitDefEqProofs [Tryz.f188,RunV.cells]
 refine draw_ev hr ?_
 intro v s'
 obtain⟨H,hH⟩:∃H,H=(h.set rr (rrow z t.ptr s')).push (nrow .nilp .nilp .nilp v 0 x ⟨0,0,0,0,0,0⟩):=⟨_,rfl⟩
 obtain⟨n,hn⟩:∃n,n=h.next:=⟨_,rfl⟩
 have hnr:n≠rr:=by omega
 have hHn:H.get n=some (nrow .nilp .nilp .nilp v 0 x ⟨0,0,0,0,0,0⟩):=by rw [hH,hn];exact get_push_next (h.set rr (rrow z t.ptr s')) _
 have hHo:∀o,o≠n→o≠rr→H.get o=h.get o:=by
  intro o h1 h2
  rw [hH,AHeap.get_push,AHeap.next_set,←hn,if_neg h1,get_set_ne (Ne.symm h2)]
 have hHr:H.get rr=some (rrow z t.ptr s'):=by
  rw [hH,AHeap.get_push,AHeap.next_set,←hn,if_neg (Ne.symm hnr),get_set_self]
 have hHx:H.next=n+1:=by rw [hH,AHeap.next_push,AHeap.next_set,hn]
 have hnt:n ∉ t.ids:=fun hm=>by have:=hlt n hm;omega
 have hHt:At TS H .nilp t:=At.congr (fun o ho=>hHo o (fun e=>hnt (by rw [←e];exact ho)) (fun e=>hrt (by rw [←e];exact ho))) ha
 have hN:∀T:List (Nat×RunV),T=L1++(n,x) :: L2→(T.map (·.1)).Nodup∧(∀o,o∈T.map (·.1)↔o=n∨o∈t.ids)∧T.length < 2 ^ 38∧atomsN (T.map (·.2)) < 2 ^ 38:=by
  rintro T rfl
  unfold Rt.ids Rt.at_ Rt.rs at *
  rw [hit]at hnd hnt hfit
  simp only [List.map_append,List.map_cons,List.length_append,List.length_cons,atomsN_append]at hnd hnt hfit ⊢
  refine⟨?_,?_,by omega,?_⟩
  · rw [List.nodup_append]at hnd ⊢
    obtain⟨d1,d2,d3⟩:=hnd
    refine⟨d1,List.nodup_cons.2 ⟨fun hm=>hnt (List.mem_append.2 (.inr hm)),d2⟩,?_⟩
    intro p hp q hq' e
    rcases List.mem_cons.1 hq' with rfl | hq'
    · exact hnt (List.mem_append.2 (.inl (by rw [←e];exact hp)))
    · exact d3 p hp q hq' e
  · intro o
    rw [hit]
    simp only [List.map_append,List.mem_append,List.mem_cons]
    constructor
    · rintro(h1 | h1 | h1)
      · exact .inr (.inl h1)
      · exact .inl h1
      · exact .inr (.inr h1)
    · rintro(h1 | h1 | h1)
      · exact .inr (.inl h1)
      · exact .inl h1
      · exact .inr (.inr h1)
  · have:∀l:List RunV,atomsN (x :: l)=x.text.length+atomsN l:=fun l=>by simp [atomsN]
    rw [this];omega
 obtain⟨T,hT⟩:∃T,T=L1++(n,x) :: L2:=⟨_,rfl⟩
 obtain⟨N1,N2,N3,N4⟩:=hN T hT
 have hlt':∀o,o∈T.map (·.1)→o < H.next:=by
  intro o ho
  rw [N2]at ho
  rcases ho with rfl | ho
  · omega
  · have:=hlt o ho;omega
 have endQ:∀h' t',At TS h' .nilp t'→(∃s,h'.get rr=some (rrow z t'.ptr s))→t'.items=T→(∀o,o < H.next→o≠n→o≠rr→o ∉ t.ids→h'.get o=H.get o)→H.next≤h'.next→Q (.ptr n 0) h':=by
  intro h' t' e1 e2 e3 e4 e5
  refine hq n h' t' ⟨e2,e1,by unfold Rt.ids;rw [e3];exact N1,?_,by omega,?_⟩ (by rw [e3,hT]) (by omega) (fun o o1 o2 o3=>by rw [e4 o (by omega) (by omega) o2 o3,hHo o (by omega) o2]) (by omega)
  · unfold Rt.ids
    rw [e3,N2]
    rintro(h1 | h1)
    · exact hnr h1.symm
    · exact hrt h1
  · intro o ho
    unfold Rt.ids at ho
    rw [e3]at ho
    have:=hlt' o ho;omega
 simp -implicitDefEqProofs
 simp only [nrow]at hH
 rw [show((0:Nat):Int)=0 from rfl]at hH
 rw [←hn,←hH]
 generalize hK:seqK (cfgR ro) 188 _ _ _ _ (Code.seq (Code.region 9 _ _) _)=K
 have tail:∀(H3:AHeap) (cc:List (Frm RunV)),Stl H3 cc n v x .nil .nil→(plug cc (Rt.node n v x .nil .nil)).items=T→H3.get rr=some (rrow z (rootOf cc (.ptr n 0)) s')→(∀o,o≠n→o≠rr→o ∉ t.ids→H3.get o=H.get o)→H3.next=H.next→
  K (.ptr rr z.1.length :: .dead :: .dead :: .dead :: .dead :: .dead :: .dead :: .ptr n 0 :: .dead :: .dead :: .dead :: .dead :: .dead :: .dead :: .dead :: .dead :: .dead :: .dead :: .dead :: .dead :: .dead :: .dead :: .dead :: .dead :: .dead :: .dead :: .dead :: .dead :: .dead :: .dead :: .dead :: .dead :: .dead :: .dead :: .dead :: .dead :: .dead :: .dead :: .dead :: .dead :: .dead :: .dead :: .dead :: .dead :: .dead :: .dead :: .dead :: .dead :: .dead :: .dead :: .dead :: .dead :: .dead :: .dead :: .dead :: .dead :: .dead :: .dead :: .dead :: .dead :: .dead :: .dead :: .dead :: .dead :: .dead :: .dead :: .dead :: .dead :: .dead :: .dead :: .dead :: []) H3:=by
  intro H3 cc hS hTi hR3 hF3 hX3
  have hIDS:∀t':Rt RunV,t'.items=T→t'.ids.Nodup∧rr ∉ t'.ids∧Fit t'∧(∀o,o∈t'.ids↔o=n∨o∈t.ids)∧(∀o∈t'.ids,o < H.next):=by
   intro t' e
   unfold Fit Rt.at_ Rt.rs
   refine⟨by unfold Rt.ids;rw [e];exact N1,?_,?_,?_,?_⟩
   · unfold Rt.ids
     rw [e,N2]
     rintro(h1 | h1)
     · exact hnr h1.symm
     · exact hrt h1
   · rw [e];exact⟨N3,N4⟩
   · intro o;rw [←N2];unfold Rt.ids;rw [e]
   · intro o ho;unfold Rt.ids at ho;rw [e]at ho;exact hlt' o ho
  rw [←hK]
  simp -implicitDefEqProofs
  refine climb_ev hS (hIDS _ hTi).1 (fun o ho=>by rw [hX3];exact(hIDS _ hTi).2.2.2.2 o ho) (hIDS _ hTi).2.2.1 (fun h3 c1 c2 c3=>?_)
  simp -implicitDefEqProofs
  obtain⟨I,hI⟩:∃I:Nat→List AVal→AHeap→Prop,I=fun m env h'=>∃c ht l r,m=c.length∧At TS h' .nilp (plug c (.node n ht x l r))∧(plug c (.node n ht x l r)).items=T∧(∃s,h'.get rr=some (rrow z (plug c (.node n ht x l r)).ptr s))∧(∀o,o < H.next→o≠n→o≠rr→o ∉ t.ids→h'.get o=H.get o)∧H.next≤h'.next∧env=(.ptr rr z.1.length :: .dead :: .dead :: .dead :: .dead :: .dead :: .dead :: .ptr n 0 :: .dead :: .dead :: .dead :: .dead :: .dead :: .dead :: .dead :: .dead :: .dead :: .dead :: .dead :: .dead :: .dead :: .dead :: .dead :: .dead :: .dead :: .dead :: .dead :: .dead :: .dead :: .dead :: .dead :: .dead :: .dead :: .dead :: .dead :: .dead :: .dead :: .dead :: .dead :: .dead :: .dead :: .dead :: .dead :: .dead :: .dead :: .dead :: .dead :: .dead :: .dead :: .dead :: .dead :: .dead :: .dead :: .dead :: .dead :: .dead :: .dead :: .dead :: .dead :: .dead :: .dead :: .dead :: .dead :: .dead :: .dead :: .dead :: .dead :: .dead :: .dead :: .dead :: .dead :: []):=⟨_,rfl⟩
  refine loop_of I ?_ cc.length (by rw [hI];exact⟨cc,v,.nil,.nil,rfl,c1,hTi,⟨s',by rw [c2 rr (by rw [hX3];omega) (hIDS _ hTi).2.1,hR3,plug_ptr];rfl⟩,fun o o0 o1 o2 o3=>by rw [c2 o (by rw [hX3];exact o0) (fun hm=>by rcases((hIDS _ hTi).2.2.2.1 o).1 hm with h1 | h1;exact o1 h1;exact o3 h1),hF3 o o1 o2 o3],by rw [←hX3];exact c3,rfl⟩)
  intro m env h' hi
  rw [hI]at hi
  obtain⟨c,ht,l,r,rfl,i1,i2,⟨s2,i3⟩,i4,i5,rfl⟩:=hi
  obtain⟨j1,j2⟩:=At.split i1
  obtain⟨⟨mm,_,j0⟩,_⟩:=at_node.1 j1
  rw [nrow]at j0
  cases c with
  | nil=>
   simp -implicitDefEqProofs [j0,upOf]
   exact endQ h' _ i1 ⟨s2,i3⟩ i2 i4 i5
  | cons f c=>
   obtain⟨⟨psz,pall,⟨pq,pm,hpq,hall⟩,p1⟩,p2,p3⟩:=j2
   rw [hall,nobj_row,nrow]at p1
   rw [upOf]at j0
   obtain⟨k1,k2,k3,k4,k5⟩:=hIDS _ i2
   by_cases hh:(f.ht:Int) < (ht:Int)
   · simp -implicitDefEqProofs [j0,p1,hh]
     refine rise_ev i1 i3 (riseF k1 k2) (fun o ho=>Nat.lt_of_lt_of_le (k5 o ho) i5) (by omega) k3 (fun h4 d1 d2 d3 d4=>?_)
     simp -implicitDefEqProofs
     have hturn:∃l' r',turned f n ht x l r=.node n ht x l' r':=by unfold turned;cases f.left <;> exact⟨_,_,rfl⟩
     obtain⟨l',r',et⟩:=hturn
     have hi:(plug c (turned f n ht x l r)).items=T:=by rw [plug_items_congr (turned_items f n ht x l r)];exact i2
     rw [et]at d1 d2 hi
     exact .mk (m:=c.length) (by simp) (by rw [hI];exact⟨c,ht,l',r',rfl,d1,hi,⟨s2,d2⟩,fun o o0 o1 o2 o3=>by rw [d3 o (by omega) o2 (fun hm=>by rcases(k4 o).1 hm with h1 | h1;exact o1 h1;exact o3 h1),i4 o o0 o1 o2 o3],by omega,rfl⟩)
   · simp -implicitDefEqProofs [j0,p1,hh]
     exact endQ h' _ i1 ⟨s2,i3⟩ i2 i4 i5
 rcases W with W0 | ⟨f,c,w1,w2,⟨o0,w0⟩,W⟩
 · rw [rrow,W0,ptr_nil]at hHr
   rw [W0]at hit
   simp -implicitDefEqProofs [hHr]
   have hL1:L1=[]:=by cases L1 with | nil=>rfl | cons a b=>cases hit
   have hL2:L2=[]:=by rw [hL1]at hit;exact hit.symm
   refine tail _ [] ⟨⟨0,_,by rw [get_set_ne (Ne.symm hnr),hHn];rfl⟩,trivial,trivial,trivial⟩ (by rw [hT,hL1,hL2];rfl) (by rw [get_set_self];rfl) (fun o o1 o2 o3=>get_set_ne (Ne.symm o2)) rfl
 · rw [rrow,w0]at hHr
   rw [←w1]at hHt hnt hrt hnd
   obtain⟨_,⟨psz,pall,⟨pq,pm,hpq,hall⟩,p1⟩,p2,p3⟩:=At.split (t:=Rt.nil) hHt
   rw [hall,nobj_row]at p1
   have hfm:f.o∈(plug (f :: c) (Rt.nil:Rt RunV)).ids:=plug_mem.2 (.inr (cids_cons.2 (.inl rfl)))
   have hnf:n≠f.o:=fun e=>hnt (by rw [e];exact hfm)
   have hrf:rr≠f.o:=fun e=>hrt (by rw [e];exact hfm)
   have put:∀H3:AHeap,H3.get n=some (nrow (.ptr f.o 0) .nilp .nilp v 0 x ⟨0,0,0,0,0,0⟩)→H3.get f.o=some (nrow (upOf c) (if f.left then .ptr n 0 else lptr f (Rt.nil:Rt RunV).ptr) (if f.left then rptr' f (Rt.nil:Rt RunV).ptr else .ptr n 0) f.ht psz f.x pm)→(∀o,o≠n→o≠f.o→H3.get o=H.get o)→Stl H3 (f :: c) n v x .nil .nil:=fun H3 g1 g2 g3=>hung hHt hnd hnt p1 g1 g2 g3
   have hTi:(plug (f :: c) (Rt.node n v x .nil .nil)).items=T:=by
    have e1:=plug_items (f :: c) (Rt.nil:Rt RunV)
    rw [w1,hit,w2]at e1
    have e2:L2=aft (f :: c):=by simpa [Rt.items] using e1
    rw [plug_items,w2,←e2,hT]
    simp [Rt.items]
   rw [w1]at hnd hrt hnt hfm
   have hfin:∀H3:AHeap,(∀o,o≠n→o≠f.o→H3.get o=H.get o)→H3.get rr=some (rrow z (rootOf (f :: c) (.ptr n 0)) s')∧∀o,o≠n→o≠rr→o ∉ t.ids→H3.get o=H.get o:=by
    intro H3 g
    refine⟨?_,fun o o1 o2 o3=>g o o1 (fun e=>o3 (by rw [e];exact hfm))⟩
    rw [g rr (Ne.symm hnr) hrf,hHr,rootOf,←w0,←w1,plug_ptr,rootOf]
    rfl
   rcases W with ⟨rfl,hfl,hlm⟩ | ⟨c0,a,aht,ax,l,r,rfl,hpl,W⟩
   · simp -implicitDefEqProofs [hHr]
     refine first_ev (by rw [hHr,←w0];rfl) (w1 ▸ hHt) ?_
     rw [hlm]
     simp -implicitDefEqProofs
     refine below_ev true hHn p1 hnf (fun H3 b1 b2 hG3 hX3=>?_)
     obtain⟨hR3,hF3⟩:=hfin H3 hG3
     simp -implicitDefEqProofs
     exact tail H3 (f :: c) (put H3 b1 (by rw [b2,hfl]) hG3) hTi hR3 hF3 hX3
   · have hHt2:At TS H .nilp (plug c0 (.node a aht ax l r)):=by rw [←hpl,←w1];exact hHt
     obtain⟨q1,q2⟩:=At.split hHt2
     obtain⟨⟨am,_,a1⟩,a2,a3⟩:=at_node.1 q1
     rw [nrow]at a1
     rcases W with ⟨rfl,hfl,hfo⟩ | ⟨o3,hp3,hfl,hlm⟩
     · rw [ptr_nil]at a1
       simp -implicitDefEqProofs [hHr,a1]
       rw [←hfo]
       refine below_ev false hHn p1 hnf (fun H3 b1 b2 hG3 hX3=>?_)
       obtain⟨hR3,hF3⟩:=hfin H3 hG3
       simp -implicitDefEqProofs
       exact tail H3 (f :: c) (put H3 b1 (by rw [b2,hfl]) hG3) hTi hR3 hF3 hX3
     · have a1':=a1
       rw [hp3]at a1'
       simp -implicitDefEqProofs [hHr,a1']
       rw [←hp3]
       refine leftmost_ev a3 ?_
       rw [hlm]
       simp -implicitDefEqProofs
       refine below_ev true hHn p1 hnf (fun H3 b1 b2 hG3 hX3=>?_)
       obtain⟨hR3,hF3⟩:=hfin H3 hG3
       simp -implicitDefEqProofs
       exact tail H3 (f :: c) (put H3 b1 (by rw [b2,hfl]) hG3) hTi hR3 hF3 hX3
end
end Go.Proofs.YtlhlbamcgopiiaaGreatDoor
set_option linter.all false
set_option maxRecDepth 100000
set_option maxHeartbeats 4000000
namespace Go.Proofs.YtlhlbamcgopiiaaGreatDoor
open Go Go.RowKit Go.Proofs
def headP:List (Nat×RunV)→AVal
 | []=>.nilp
 | p :: _=>.ptr p.1 0
theorem lm_head:∀t:Rt RunV,t.lm=headP t.items
 | .nil=>rfl
 | .node o ht x .nil r=>rfl
 | .node o ht x (.node o2 h2 x2 l2 r2) r=>by
  show Rt.lm (.node o2 h2 x2 l2 r2)=_
  rw [lm_head (.node o2 h2 x2 l2 r2)]
  rw [items_node o ht]
  cases h:(Rt.node o2 h2 x2 l2 r2).items with
  | nil=>rw [items_node]at h;simp at h
  | cons a b=>rfl
section
variable {c:Cfg} {f:Nat} {K:List AVal→AHeap→Prop} {E:Nat→List AVal→AHeap→Prop} {R:List AVal→AHeap→Prop} {G:Nat→List AVal→AHeap→Prop}
theorem scope_loop2 {l:Nat} {body rest:Code} (hl:findLabel body l=some (Code.skip.seq rest)) (I:Nat→List AVal→AHeap→Prop)
 (hI:∀n env h,(∀m,m < n→∀env h,I m env h→scpG c f K E R G body l env h)→I n env h→wp c f rest K E R (scpG c f K E R G body) env h) (n:Nat) {env:List AVal} {h:AHeap} (h0:I n env h):
 wp c f (.label l) (seqK c f K E R (scpG c f K E R G body) rest) E R (scpG c f K E R G body) env h:=by
 have key:∀n {env:List AVal} {h:AHeap},I n env h→scpG c f K E R G body l env h:=by
  intro n
  induction n using Nat.strongRecOn with
  | _ n ih=>
   intro env h h0
   unfold scpG
   rw [hl]
   exact label_of (rest:=Code.skip.seq rest) (hI n env h (fun m hm env h q=>ih m hm q) h0)
 exact hI n env h (fun m _ env h q=>key m q) h0
end
section
variable {ro:Nat→Option (List AVal)} {z:List AVal×List AVal}
theorem rope_put {h:AHeap} {rr:Nat} {t:Rt RunV} {x:RunV} {after:AVal} {L1 L2:List (Nat×RunV)} (R:Rp z h rr t) (hit:t.items=L1++L2)
 (hfit:t.items.length+1 < 2 ^ 38∧t.at_+x.text.length < 2 ^ 38) (haft:(L1=[]∧after=.nilp)∨∃L0 a y,L1=L0++[(a,y)]∧after=.ptr a 0)
 {Q:AVal→AHeap→Prop}
 (hq:∀n h' t',Rp z h' rr t'→t'.items=L1++(n,x) :: L2→h.next≤n→(∀o,o < h.next→o≠rr→o ∉ t.ids→h'.get o=h.get o)→h.next≤h'.next→Q (.ptr n 0) h'):Ev (cfgR ro) 188 [.ptr rr z.1.length,after,.agg x.cells] h Q:=by
 refine put0 R hit hfit ?_ hq
 cases ht:t with
 | nil=>exact .inl rfl
 | node o0 ht0 x0 l0 r0=>
  rw [←ht]
  refine .inr ?_
  have hne:t≠.nil:=by rw [ht];simp
  have hp:∃o,t.ptr=.ptr o 0:=⟨o0,by rw [ht];rfl⟩
  rcases haft with ⟨rfl,rfl⟩ | ⟨L0,a,y,rfl,rfl⟩
  · obtain⟨f,c,h1,h2,h3,h4⟩:=hole_left t hne
    exact⟨f,c,h1,h2,hp,.inl ⟨rfl,h3,h4⟩⟩
  · obtain⟨c0,aht,l,r,e1,e2⟩:=place (L1:=L0) (o:=a) (x:=y) (L2:=L2) (by rw [hit];simp) R.nd
    cases hr:r with
    | nil=>
     rw [hr]at e1
     refine⟨⟨a,aht,y,false,l⟩,c0,e1.symm,?_,hp,.inr ⟨c0,a,aht,y,l,.nil,rfl,e1,.inl ⟨rfl,rfl,rfl⟩⟩⟩
     show bef c0++(l.items++[(a,y)])=_
     rw [←e2];simp
    | node o2 h2 x2 l2 r2=>
     obtain⟨f,c,k1,k2,k3,k4⟩:=hole_left r (by rw [hr];simp)
     refine⟨f,c++⟨a,aht,y,false,l⟩ :: c0,?_,?_,hp,.inr ⟨c0,a,aht,y,l,r,rfl,e1,.inr ⟨o2,by rw [hr];rfl,k3,k4⟩⟩⟩
     · rw [←List.cons_append,plug_append,k1,e1];rfl
     · rw [←List.cons_append,bef_append,k2,List.append_nil]
       show bef c0++(l.items++[(a,y)])=_
       rw [←e2];simp
theorem rope_all {h:AHeap} {rr:Nat} {t:Rt RunV} (R:Rp z h rr t) {Q:AVal→AHeap→Prop} (hq:∀m,MassOf t.rs m→Q (.agg m.cells) h):Ev (cfgR ro) 132 [.ptr rr z.1.length] h Q:=by
 obtain⟨s,hr⟩:=R.root
 refine Ev.wp rfl rfl Tryz.func132 rfl ?_
 rw [rrow]at hr
 simp -implicitDefEqProofs [Tryz.f132,hr]
 refine sum_ev R.tree (fun m hm=>?_)
 have hq:=hq m hm
 simp only [MassV.cells]at hq
 simp -implicitDefEqProofs [MassV.cells]
 exact hq
theorem above {h:AHeap} {f:Frm RunV} {c:List (Frm RunV)} {n ht:Nat} {x:RunV} {l r:Rt RunV} (ha:At TS h .nilp (plug (f :: c) (.node n ht x l r))) (hnd:(plug (f :: c) (.node n ht x l r)).ids.Nodup):
 ∃psz pall,h.get f.o=some (nrow (upOf c) (if f.left then .ptr n 0 else f.sib.ptr) (if f.left then f.sib.ptr else .ptr n 0) f.ht psz f.x pall)∧
  At TS h (.ptr f.o 0) f.sib∧eqIn (cfgR ro) h 10000 25 (if f.left then f.sib.ptr else .ptr n 0) (.ptr n 0)=.ok (!f.left):=by
 obtain⟨j1,⟨psz,pall,⟨pq,pm,hpq,hall⟩,p1⟩,p2,p3⟩:=At.split ha
 rw [hall,nobj_row]at p1
 have hn:=(at_node.1 j1).1.choose_spec.2
 have hns:n ∉ f.sib.ids:=fun hm=>(apart_tree hnd).2 n (by rw [ids_node];simp) (cids_cons.2 (.inr (.inl hm)))
 refine⟨psz,pm,by rw [p1];unfold lptr rptr';cases f.left <;> rfl,p2,?_⟩
 cases f.left with
 | true=>exact eq_place p2 hns hn
 | false=>
  show eqIn (cfgR ro) h 10000 25 (.ptr n 0) (.ptr n 0)=_
  rw [eq25_pp,ptrEq_self];rfl
theorem rope_next {h:AHeap} {T:Rt RunV} {a:Nat} {y:RunV} {L1 L2:List (Nat×RunV)} (ha:At TS h .nilp T) (hnd:T.ids.Nodup) (hT:T.items=L1++(a,y) :: L2) {Q:AVal→AHeap→Prop} (hq:Q (headP L2) h):Ev (cfgR ro) 128 [.ptr a 0] h Q:=by
 obtain⟨c,ht,l,r,e1,e2⟩:=place hT hnd
 refine Ev.wp rfl rfl Tryz.func128 rfl ?_
 have h0:=(At.split (t:=.node a ht y l r) (e1 ▸ ha)).1
 obtain⟨⟨jm,_,ja⟩,jl,jr⟩:=at_node.1 h0
 have ja':=ja
 rw [nrow]at ja'
 have hL2:L2=r.items++aft c:=by
  have:=plug_items c (.node a ht y l r)
  rw [←e1,hT,←e2,items_node]at this
  simpa using this
 cases r with
 | node o2 h2 x2 l2 r2=>
  rw [ptr_node]at ja'
  simp -implicitDefEqProofs [Tryz.f128,ja']
  rw [←ptr_node (o:=o2) (ht:=h2) (x:=x2) (l:=l2) (r:=r2)]
  refine leftmost_ev jr ?_
  simp -implicitDefEqProofs
  rw [lm_head]
  have:headP (Rt.node o2 h2 x2 l2 r2).items=headP L2:=by
   rw [hL2]
   cases h:(Rt.node o2 h2 x2 l2 r2).items with
   | nil=>rw [items_node]at h;simp at h
   | cons p q=>rfl
  rw [this];exact hq
 | nil=>
  rw [ptr_nil]at ja'
  simp -implicitDefEqProofs [Tryz.f128,ja']
  refine scope_loop2 (by simp [findLabel]) (fun m env h'=>h'=h∧∃c n ht x l r z,m=c.length∧T=plug c (.node n ht x l r)∧aft c=L2∧env=(.ptr n 0 :: .dead :: .dead :: .dead :: .dead :: .dead :: .dead :: z :: .dead :: .dead :: .dead :: .dead :: .dead :: .dead :: .dead :: .dead :: .dead :: .dead :: .dead :: .dead :: .dead :: .dead :: .dead :: .dead :: .dead :: .dead :: .dead :: .dead :: .dead :: .dead :: .dead :: .dead :: .dead :: .dead :: .dead :: .dead :: .dead :: [])) ?_ c.length ⟨rfl,c,a,ht,y,l,.nil,_,rfl,e1,by rw [hL2];rfl,rfl⟩
  rintro m env h' ih ⟨rfl,c,n,ht,x,l,r,z,rfl,g1,g2,rfl⟩
  have hA:At TS h' .nilp (plug c (.node n ht x l r)):=g1 ▸ ha
  obtain⟨⟨jm,_,ja⟩,jl,jr⟩:=at_node.1 (At.split hA).1
  rw [nrow]at ja
  cases c with
  | nil=>
   rw [upOf]at ja
   simp -implicitDefEqProofs [ja]
   have:L2=[]:=by rw [←g2];rfl
   rw [this]at hq;exact hq
  | cons f c=>
   obtain⟨psz,pall,p1,p2,p3⟩:=above (ro:=ro) hA (g1 ▸ hnd)
   rw [upOf]at ja
   rw [nrow]at p1
   have hp:∃l2 r2,plug1 f (.node n ht x l r)=.node f.o f.ht f.x l2 r2:=by unfold plug1;cases f.left <;> exact⟨_,_,rfl⟩
   obtain⟨l2,r2,hp⟩:=hp
   cases hl:f.left with
   | true=>
    rw [hl]at p1 p3
    simp only [if_true]at p1 p3
    simp -implicitDefEqProofs [ja,p1,p3,cells_ptr]
    refine⟨by cases f.sib <;> simp [Rt.ptr],?_⟩
    have:headP L2=.ptr f.o 0:=by rw [←g2];simp [aft,hl,headP]
    rw [this]at hq;exact hq
   | false=>
    rw [hl]at p1 p3
    simp only [Bool.false_eq_true,if_false]at p1 p3
    simp -implicitDefEqProofs [ja,p1,ptrEq_self]
    refine ih _ ?_ _ _ ⟨rfl,c,f.o,f.ht,f.x,l2,r2,_,rfl,by rw [g1,plug,hp],by rw [←g2];simp [aft,hl],rfl⟩
    simp
end
end Go.Proofs.YtlhlbamcgopiiaaGreatDoor
set_option linter.all false
set_option maxRecDepth 100000
set_option maxHeartbeats 4000000
namespace Go.Proofs.YtlhlbamcgopiiaaGreatDoor
open Go Go.RowKit Go.Proofs
def lastOf (L:List (Nat×RunV)):AVal:=match L.getLast? with
 | none=>.nilp
 | some p=>.ptr p.1 0
def Rt.rm:Rt RunV→AVal
 | .nil=>.nilp
 | .node o _ _ _ .nil=>.ptr o 0
 | .node _ _ _ _ (.node o2 h2 x2 l2 r2)=>Rt.rm (.node o2 h2 x2 l2 r2)
theorem lastOf_append (A:List (Nat×RunV)) {L:List (Nat×RunV)} (h:L≠[]):lastOf (A++L)=lastOf L:=by
 rcases List.eq_nil_or_concat L with rfl | ⟨L0,p,rfl⟩
 · exact(h rfl).elim
 · unfold lastOf
   rw [List.concat_eq_append,←List.append_assoc,List.getLast?_append,List.getLast?_append,List.getLast?_append]
   rfl
theorem rm_last:∀t:Rt RunV,t.rm=lastOf t.items
 | .nil=>rfl
 | .node o ht x l .nil=>by simp [Rt.rm,Rt.items,lastOf]
 | .node o ht x l (.node o2 h2 x2 l2 r2)=>by
  show Rt.rm (.node o2 h2 x2 l2 r2)=_
  rw [rm_last (.node o2 h2 x2 l2 r2)]
  rw [items_node o ht]
  have hne:(Rt.node o2 h2 x2 l2 r2).items≠[]:=by rw [items_node];simp
  rw [show l.items++(o,x) :: (Rt.node o2 h2 x2 l2 r2).items=(l.items++[(o,x)])++(Rt.node o2 h2 x2 l2 r2).items by simp,lastOf_append _ hne]
section
variable {ro:Nat→Option (List AVal)} {z:List AVal×List AVal}
theorem item_ev {h:AHeap} {a ht sz:Nat} {u l r:AVal} {x:RunV} {all:MassV} (hn:h.get a=some (nrow u l r ht sz x all)) {Q:AVal→AHeap→Prop} (hq:Q (.agg x.cells) h):Ev (cfgR ro) 129 [.ptr a 0] h Q:=by
 refine Ev.wp rfl rfl Tryz.func129 rfl ?_
 rw [nrow]at hn
 simp only [RunV.cells]at hq
 simp -implicitDefEqProofs [Tryz.f129,hn]
 exact hq
theorem rightmost_ev {h:AHeap} {up:AVal} {t:Rt RunV} (ha:At TS h up t) {Q:AVal→AHeap→Prop} (hq:Q t.rm h):Ev (cfgR ro) 196 [t.ptr] h Q:=by
 refine Ev.wp rfl rfl Tryz.func196 rfl ?_
 simp -implicitDefEqProofs [Tryz.f196]
 refine scope_loop (fun m env h'=>h'=h∧∃t' up,At TS h up t'∧t'.rm=t.rm∧m=t'.items.length∧env=(t'.ptr :: .dead :: .dead :: .dead :: .dead :: .dead :: .dead :: .dead :: .dead :: .dead :: .dead :: .dead :: .dead :: .dead :: .dead :: .dead :: .dead :: [])) ?_ _ ⟨rfl,t,up,ha,rfl,rfl,rfl⟩
 rintro m env h' ih ⟨rfl,t',up',ha',hlm,rfl,rfl⟩
 cases t' with
 | nil=>
  simp -implicitDefEqProofs [Rt.ptr]
  rw [←hlm]at hq
  exact hq
 | node o ht x l r=>
  obtain⟨⟨am,_,a1⟩,a2,a3⟩:=at_node.1 ha'
  rw [nrow]at a1
  cases r with
  | nil=>
   rw [ptr_nil]at a1
   simp -implicitDefEqProofs [ptr_node,a1]
   rw [←hlm]at hq
   exact hq
  | node o2 h2 x2 l2 r2=>
   rw [ptr_node]at a1
   simp -implicitDefEqProofs [ptr_node,a1]
   refine ih _ ?_ _ _ ⟨rfl,_,_,a3,by rw [←hlm];rfl,rfl,rfl⟩
   simp [Rt.items]
   omega
theorem aboveL {h:AHeap} {f:Frm RunV} {c:List (Frm RunV)} {n ht:Nat} {x:RunV} {l r:Rt RunV} (ha:At TS h .nilp (plug (f :: c) (.node n ht x l r))) (hnd:(plug (f :: c) (.node n ht x l r)).ids.Nodup):
 eqIn (cfgR ro) h 10000 25 (if f.left then .ptr n 0 else f.sib.ptr) (.ptr n 0)=.ok f.left:=by
 obtain⟨j1,_,p2,p3⟩:=At.split ha
 have hn:=(at_node.1 j1).1.choose_spec.2
 have hns:n ∉ f.sib.ids:=fun hm=>(apart_tree hnd).2 n (by rw [ids_node];simp) (cids_cons.2 (.inr (.inl hm)))
 cases f.left with
 | false=>exact eq_place p2 hns hn
 | true=>
  show eqIn (cfgR ro) h 10000 25 (.ptr n 0) (.ptr n 0)=_
  rw [eq25_pp,ptrEq_self]
theorem rope_prev {h:AHeap} {T:Rt RunV} {a:Nat} {y:RunV} {L1 L2:List (Nat×RunV)} (ha:At TS h .nilp T) (hnd:T.ids.Nodup) (hT:T.items=L1++(a,y) :: L2) {Q:AVal→AHeap→Prop} (hq:Q (lastOf L1) h):Ev (cfgR ro) 169 [.ptr a 0] h Q:=by
 obtain⟨c,ht,l,r,e1,e2⟩:=place hT hnd
 refine Ev.wp rfl rfl Tryz.func169 rfl ?_
 have h0:=(At.split (t:=.node a ht y l r) (e1 ▸ ha)).1
 obtain⟨⟨jm,_,ja⟩,jl,jr⟩:=at_node.1 h0
 have ja':=ja
 rw [nrow]at ja'
 cases l with
 | node o2 h2 x2 l2 r2=>
  rw [ptr_node]at ja'
  simp -implicitDefEqProofs [Tryz.f169,ja']
  rw [←ptr_node (o:=o2) (ht:=h2) (x:=x2) (l:=l2) (r:=r2)]
  refine rightmost_ev jl ?_
  simp -implicitDefEqProofs
  rw [rm_last]
  have:lastOf (Rt.node o2 h2 x2 l2 r2).items=lastOf L1:=by
   rw [←e2,lastOf_append _ (by rw [items_node];simp)]
  rw [this];exact hq
 | nil=>
  rw [ptr_nil]at ja'
  simp -implicitDefEqProofs [Tryz.f169,ja']
  refine scope_loop2 (by simp [findLabel]) (fun m env h'=>h'=h∧∃c n ht x l r z,m=c.length∧T=plug c (.node n ht x l r)∧bef c=L1∧env=(.ptr n 0 :: .dead :: .dead :: .dead :: .dead :: .dead :: .dead :: z :: .dead :: .dead :: .dead :: .dead :: .dead :: .dead :: .dead :: .dead :: .dead :: .dead :: .dead :: .dead :: .dead :: .dead :: .dead :: .dead :: .dead :: .dead :: .dead :: .dead :: .dead :: .dead :: .dead :: .dead :: .dead :: .dead :: .dead :: .dead :: .dead :: [])) ?_ c.length ⟨rfl,c,a,ht,y,.nil,r,_,rfl,e1,by rw [←e2];simp [Rt.items],rfl⟩
  rintro m env h' ih ⟨rfl,c,n,ht,x,l,r,z,rfl,g1,g2,rfl⟩
  have hA:At TS h' .nilp (plug c (.node n ht x l r)):=g1 ▸ ha
  obtain⟨⟨jm,_,ja⟩,jl,jr⟩:=at_node.1 (At.split hA).1
  rw [nrow]at ja
  cases c with
  | nil=>
   rw [upOf]at ja
   simp -implicitDefEqProofs [ja]
   have:L1=[]:=by rw [←g2];rfl
   rw [this]at hq;exact hq
  | cons f c=>
   obtain⟨psz,pall,p1,p2,_⟩:=above (ro:=ro) hA (g1 ▸ hnd)
   have p3:=aboveL (ro:=ro) hA (g1 ▸ hnd)
   rw [upOf]at ja
   rw [nrow]at p1
   have hp:∃l2 r2,plug1 f (.node n ht x l r)=.node f.o f.ht f.x l2 r2:=by unfold plug1;cases f.left <;> exact⟨_,_,rfl⟩
   obtain⟨l2,r2,hp⟩:=hp
   cases hl:f.left with
   | false=>
    rw [hl]at p1 p3
    simp only [Bool.false_eq_true,if_false]at p1 p3
    simp -implicitDefEqProofs [ja,p1,p3,cells_ptr]
    refine⟨by cases f.sib <;> simp [Rt.ptr],?_⟩
    have:lastOf L1=.ptr f.o 0:=by rw [←g2];simp [bef,hl,lastOf]
    rw [this]at hq;exact hq
   | true=>
    rw [hl]at p1 p3
    simp only [if_true]at p1 p3
    simp -implicitDefEqProofs [ja,p1,ptrEq_self]
    refine ih _ ?_ _ _ ⟨rfl,c,f.o,f.ht,f.x,l2,r2,_,rfl,by rw [g1,plug,hp],by rw [←g2];simp [bef,hl],rfl⟩
    simp
theorem rope_set {h:AHeap} {rr:Nat} {T:Rt RunV} {a:Nat} {y x:RunV} {L1 L2:List (Nat×RunV)} (R:Rp z h rr T) (hT:T.items=L1++(a,y) :: L2)
 (hfit:T.items.length < 2 ^ 38∧T.at_+x.text.length < 2 ^ 38) {Q:AVal→AHeap→Prop}
 (hq:∀h' t',Rp z h' rr t'→t'.items=L1++(a,x) :: L2→(∀o,o < h.next→o ∉ T.ids→h'.get o=h.get o)→h.next≤h'.next→Q (.tuple []) h'):Ev (cfgR ro) 167 [.ptr rr z.1.length,.ptr a 0,.agg x.cells] h Q:=by
 obtain⟨⟨s,hr⟩,ha,hnd,hrt,hlr,hlt⟩:=R
 obtain⟨c,ht,l,r,e1,e2⟩:=place hT hnd
 refine Ev.wp rfl rfl Tryz.func167 rfl ?_
 obtain⟨hA,hC⟩:=At.split (t:=.node a ht y l r) (e1 ▸ ha)
 obtain⟨⟨jm,_,ja⟩,jl,jr⟩:=at_node.1 hA
 have ja':=ja
 rw [nrow]at ja'
 simp -implicitDefEqProofs [Tryz.f167,ja',RunV.cells]
 obtain⟨H,hH⟩:∃H,H=h.set a (nrow (upOf c) l.ptr r.ptr ht (l.items.length+1+r.items.length) x jm):=⟨_,rfl⟩
 have hnd1:(plug c (.node a ht y l r)).ids.Nodup:=e1 ▸ hnd
 obtain⟨nd1,nd2⟩:=apart_tree hnd1
 obtain⟨ndl,ndr,hal,har,_⟩:=apart_node nd1
 have hac:a ∉ cids c:=nd2 a (by rw [ids_node];simp)
 have hG:∀o,o≠a→H.get o=h.get o:=fun o ho=>by rw [hH,get_set_ne (Ne.symm ho)]
 have hS:Stl H c a ht x l r:=⟨⟨_,_,by rw [hH,get_set_self]⟩,At.congr (fun o ho=>hG o (fun e=>hal (by rw [←e];exact ho))) jl,At.congr (fun o ho=>hG o (fun e=>har (by rw [←e];exact ho))) jr,CA.congr (fun o ho=>hG o (fun e=>hac (by rw [←e];exact ho))) hC⟩
 have hi:(plug c (.node a ht x l r)).items=L1++(a,x) :: L2:=by
  have q:=plug_items c (.node a ht y l r)
  rw [←e1,hT,←e2,items_node]at q
  have q2:L2=r.items++aft c:=by simpa using q
  rw [plug_items,items_node,q2,←e2]
  simp
 have hids:(plug c (.node a ht x l r)).ids=T.ids:=by
  unfold Rt.ids;rw [hi,hT];simp
 have hF:Fit (plug c (.node a ht x l r)):=by
  unfold Fit
  unfold Rt.at_ Rt.rs at hfit ⊢
  rw [hi]
  rw [hT]at hfit
  simp only [atomsN,List.map_append,List.map_cons,List.sum_append,List.sum_cons,List.length_append,List.length_cons]at hfit ⊢
  omega
 have hEv:Ev (cfgR ro) 193 [.ptr a 0] H (fun v h'=>v=.tuple []∧Q (.tuple []) h'):=by
  refine climb_ev hS (by rw [hids];exact hnd) (fun o ho=>by rw [hids]at ho;rw [hH];exact hlt o ho) hF (fun h' c1 c2 c3=>⟨rfl,?_⟩)
  rw [hids]at c2
  refine hq h' _ ⟨⟨s,?_⟩,c1,by rw [hids];exact hnd,by rw [hids];exact hrt,by rw [hH]at c3;exact Nat.lt_of_lt_of_le hlr c3,by rw [hids];rw [hH]at c3;exact fun o ho=>Nat.lt_of_lt_of_le (hlt o ho) c3⟩ hi (fun o ho0 ho=>?_) (by rw [hH]at c3;exact c3)
  · rw [c2 rr (by rw [hH];exact hlr) hrt,hG rr (fun e=>hrt (by rw [e,e1];exact plug_mem.2 (.inl (by rw [ids_node];simp)))),hr,e1,plug_ptr,plug_ptr];rfl
  · rw [c2 o (by rw [hH];exact ho0) ho,hG o (fun e=>ho (by rw [e,e1];exact plug_mem.2 (.inl (by rw [ids_node];simp))))]
 rw [hH]at hEv
 simp [nrow]at hEv
 refine Ev.mono hEv ?_
 rintro v h2 ⟨rfl,q⟩
 simp -implicitDefEqProofs
 exact q
end
end Go.Proofs.YtlhlbamcgopiiaaGreatDoor
set_option linter.all false
set_option maxRecDepth 100000
set_option maxHeartbeats 4000000
namespace Go.Proofs.YtlhlbamcgopiiaaGreatDoor
open Go Go.RowKit Go.Proofs
section
variable {ro:Nat→Option (List AVal)} {z:List AVal×List AVal}
theorem hang_nil {h:AHeap} {c:List (Frm RunV)} {rr old:Nat} {s:Int} {ol or_:AVal} {oht osz:Nat} {ox:RunV} {oall:MassV} {it:List (Nat×RunV)}
 (hroot:h.get rr=some (rrow z (rootOf c (.ptr old 0)) s)) (hold:h.get old=some (nrow (upOf c) ol or_ oht osz ox oall)) (hc:CX h c it (.ptr old 0))
 (d2:old ∉ cids c) (d4:rr ∉ cids c) (d6:rr≠old) (d7:(plug c (Rt.nil:Rt RunV)).ids.Nodup) {Q:AVal→AHeap→Prop}
 (hq:∀h',h'.get rr=some (rrow z (rootOf c .nilp) s)→CX h' c it .nilp→(∀o,o≠rr→o ∉ cids c→h'.get o=h.get o)→h'.next=h.next→Q (.tuple []) h'):
 Ev (cfgR ro) 223 [.ptr rr z.1.length,.ptr old 0,.nilp] h Q:=by
 refine Ev.wp rfl rfl Tryz.func223 rfl ?_
 cases c with
 | nil=>
  simp only [upOf,rootOf]at *
  rw [nrow]at hold
  rw [rrow]at hroot
  simp -implicitDefEqProofs [Tryz.f223,hold,hroot]
  refine hq _ ?_ trivial (fun o a _=>?_) rfl
  · rw [get_set_self];rfl
  · rw [get_set_ne (Ne.symm a)]
 | cons f c=>
  simp only [upOf,rootOf]at *
  obtain⟨⟨all,hm,h1⟩,h2,h3⟩:=hc
  obtain⟨J,hJ⟩:∃J,J=itf f it:=⟨_,rfl⟩
  obtain⟨sz,hsz⟩:∃sz,sz=J.length:=⟨_,rfl⟩
  rw [←hJ]at hm
  rw [←hJ,←hsz]at h1
  rw [←hJ]at h3
  have df:f.o∈cids (f :: c):=cids_cons.2 (.inl rfl)
  have n2:old≠f.o:=fun e=>d2 (by rw [e];exact df)
  have n3:rr≠f.o:=fun e=>d4 (by rw [e];exact df)
  have hsibo:old ∉ f.sib.ids:=fun hm=>d2 (cids_cons.2 (.inr (.inl hm)))
  have dd:f.o ∉ f.sib.ids∧f.o ∉ cids c:=by
   rw [plug]at d7
   obtain⟨q1,q2⟩:=apart_tree d7
   unfold plug1 at q1 q2
   cases hl:f.left with
   | true=>
    rw [hl]at q1 q2
    obtain⟨_,_,_,q3,_⟩:=apart_node q1
    exact⟨q3,q2 _ (by rw [ids_node];simp)⟩
   | false=>
    rw [hl]at q1 q2
    obtain⟨_,_,q3,_,_⟩:=apart_node q1
    exact⟨q3,q2 _ (by rw [ids_node];simp)⟩
  have fin:∀h',h'.get f.o=some (nrow (upOf c) (lptr f .nilp) (rptr' f .nilp) f.ht sz f.x all)→(∀o,o≠f.o→h'.get o=h.get o)→h'.next=h.next→Q (.tuple []) h':=by
   intro h' g1 g2 g3
   refine hq h' ?_ ⟨⟨all,by rw [←hJ];exact hm,by rw [←hJ,←hsz,g1]⟩,?_,hJ ▸ ?_⟩ (fun o b hcd=>?_) g3
   · rw [g2 rr n3];exact hroot
   · exact At.congr (fun o ho=>g2 o (fun e=>dd.1 (by rw [←e];exact ho))) h2
   · exact CX.congr (fun o ho=>g2 o (fun e=>dd.2 (by rw [←e];exact ho))) h3
   · exact g2 o (fun e=>hcd (by rw [e];exact df))
  have hold':=hold
  rw [nrow]at hold'
  cases hl:f.left with
  | true=>
   have e1:lptr f (.ptr old 0)=.ptr old 0:=by simp only [lptr,hl]
   have e2:rptr' f (.ptr old 0)=f.sib.ptr:=by simp only [rptr',hl]
   rw [e1,e2,nrow]at h1
   simp -implicitDefEqProofs [Tryz.f223,hold',h1,ptrEq_self]
   exact fin _ (by rw [get_set_self,lptr,rptr',hl];rfl) (fun o ho=>get_set_ne (Ne.symm ho)) rfl
  | false=>
   have e1:lptr f (.ptr old 0)=f.sib.ptr:=by simp only [lptr,hl]
   have e2:rptr' f (.ptr old 0)=.ptr old 0:=by simp only [rptr',hl]
   rw [e1,e2,nrow]at h1
   have heq:=eq_place (ro:=ro) h2 hsibo hold
   simp -implicitDefEqProofs [Tryz.f223,hold',h1,heq,cells_ptr]
   refine⟨by cases f.sib <;> simp [Rt.ptr],?_⟩
   exact fin _ (by rw [get_set_self,lptr,rptr',hl];rfl) (fun o ho=>get_set_ne (Ne.symm ho)) rfl
theorem climbNil {h:AHeap} {Q:AVal→AHeap→Prop} (hq:Q (.tuple []) h):Ev (cfgR ro) 193 [.nilp] h Q:=by
 refine Ev.wp rfl rfl Tryz.func193 rfl ?_
 simp -implicitDefEqProofs [Tryz.f193]
 refine loop_of (fun m env h'=>h'=h∧env=[.nilp,.dead,.dead,.dead,.dead,.dead,.dead,.dead,.dead,.dead]) ?_ 0 ⟨rfl,rfl⟩
 rintro m env h' ⟨rfl,rfl⟩
 simp -implicitDefEqProofs
 exact hq
theorem rope_remove {h:AHeap} {rr:Nat} {T:Rt RunV} {a:Nat} {y:RunV} {L1 L2:List (Nat×RunV)} (R:Rp z h rr T) (hT:T.items=L1++(a,y) :: L2)
 (hfit:Fit T) {Q:AVal→AHeap→Prop}
 (hq:∀h' t',Rp z h' rr t'→t'.items=L1++L2→(∀o,o < h.next→o≠rr→o ∉ T.ids→h'.get o=h.get o)→h.next≤h'.next→Q (.tuple []) h'):Ev (cfgR ro) 217 [.ptr rr z.1.length,.ptr a 0] h Q:=by
 obtain⟨⟨s,hr⟩,ha,hnd,hrt,hlr,hlt⟩:=R
 obtain⟨c,ht,l,r,e1,e2⟩:=place hT hnd
 have e3:r.items++aft c=L2:=by
  have q:=plug_items c (.node a ht y l r)
  rw [←e1,hT,←e2,items_node]at q
  simpa using q.symm
 refine Ev.wp rfl rfl Tryz.func217 rfl ?_
 simp -implicitDefEqProofs [Tryz.f217]
 refine scope_loop (fun m env h'=>∃(c:List (Frm RunV)) (ht:Nat) (l r:Rt RunV) (z4 z40:AVal),m=l.items.length+r.items.length∧bef c++l.items=L1∧r.items++aft c=L2∧At TS h' .nilp (plug c (.node a ht y l r))∧(∃s,h'.get rr=some (rrow z (plug c (.node a ht y l r)).ptr s))∧(∀o,o < h.next→o≠rr→o ∉ T.ids→h'.get o=h.get o)∧h.next≤h'.next∧env=(.ptr rr z.1.length :: .ptr a 0 :: .dead :: .dead :: z4 :: .dead :: .dead :: .dead :: .dead :: .dead :: .dead :: .dead :: .dead :: .dead :: .dead :: .dead :: .dead :: .dead :: .dead :: .dead :: .dead :: .dead :: .dead :: .dead :: .dead :: .dead :: .dead :: .dead :: .dead :: .dead :: .dead :: .dead :: .dead :: .dead :: .dead :: .dead :: .dead :: .dead :: .dead :: .dead :: z40 :: .dead :: .dead :: .dead :: .dead :: .dead :: .dead :: .dead :: .dead :: .dead :: .dead :: .dead :: .dead :: .dead :: .dead :: .dead :: .dead :: .dead :: .dead :: .dead :: .dead :: .dead :: .dead :: [])) ?_ _ ⟨c,ht,l,r,_,_,rfl,e2,e3,e1 ▸ ha,⟨s,by rw [←e1];exact hr⟩,fun _ _ _ _=>rfl,Nat.le_refl _,rfl⟩
 rintro m env h' ih ⟨c,ht,l,r,z4,z40,rfl,g1,g2,i1,⟨s2,i3⟩,i4,i5,rfl⟩
 have hi:(plug c (.node a ht y l r)).items=T.items:=by
  rw [plug_items,items_node,hT,←g1,←g2];simp
 have k4:(plug c (.node a ht y l r)).ids=T.ids:=by unfold Rt.ids;rw [hi]
 have k1:(plug c (.node a ht y l r)).ids.Nodup:=by rw [k4];exact hnd
 have k2:rr ∉ (plug c (.node a ht y l r)).ids:=by rw [k4];exact hrt
 have k3:Fit (plug c (.node a ht y l r)):=by unfold Fit Rt.at_ Rt.rs at *;rw [hi];exact hfit
 obtain⟨⟨jm,_,ja⟩,jl,jr⟩:=at_node.1 (At.split i1).1
 have ja0:=ja
 rw [nrow]at ja
 cases l with
 | nil=>
  cases r with
  | nil=>
   rw [ptr_nil]at ja
   simp -implicitDefEqProofs [ja]
   obtain⟨x1,x2⟩:=CX.split i1
   obtain⟨nd1,nd2⟩:=apart_tree k1
   have hac:a ∉ cids c:=nd2 a (by rw [ids_node];simp)
   have hrc:rr ∉ cids c:=fun hm=>k2 (plug_mem.2 (.inr hm))
   have hra:rr≠a:=fun e=>k2 (plug_mem.2 (.inl (by rw [ids_node,e];simp)))
   have hnil:(plug c (Rt.nil:Rt RunV)).items=L1++L2:=by rw [plug_items,←g1,←g2];simp [Rt.items]
   have hsub:∀o,o∈(plug c (Rt.nil:Rt RunV)).ids→o∈T.ids:=fun o ho=>by
    rw [←k4]
    rcases plug_mem.1 ho with h1 | h1
    · cases h1
    · exact plug_mem.2 (.inr h1)
   have hT':a∈T.ids:=by rw [←k4];exact plug_mem.2 (.inl (by rw [ids_node];simp))
   refine hang_nil (c:=c) (old:=a) (s:=s2) (by rw [i3,plug_ptr];rfl) ja0 x2 hac hrc hra (plug_nd k1) (fun h2 q1 q2 q3 q4=>?_)
   have ja2:h2.get a=_:=(q3 a (Ne.symm hra) hac).trans ja
   simp -implicitDefEqProofs [ja2]
   have done:∀h3:AHeap,At TS h3 .nilp (plug c (Rt.nil:Rt RunV))→(∀o,o < h2.next→o ∉ cids c→h3.get o=h2.get o)→h2.next≤h3.next→∀v,Q (.tuple []) (h3.set a v):=by
    intro h3 w1 w2 w3 v
    refine hq _ (plug c Rt.nil) ⟨⟨s2,?_⟩,At.congr (fun o ho=>get_set_ne (fun e=>hac (by rcases plug_mem.1 ho with h1 | h1;cases h1;rw [e];exact h1))) w1,plug_nd k1,fun hm=>hrt (hsub _ hm),?_,?_⟩ hnil (fun o o0 o2 o3=>?_) ?_
    · rw [get_set_ne (Ne.symm hra),w2 rr (by rw [q4];exact Nat.lt_of_lt_of_le hlr i5) hrc,q1,plug_ptr];rfl
    · show rr < h3.next;rw [q4]at w3;omega
    · intro o ho;show o < h3.next;rw [q4]at w3;have:=hlt o (hsub o ho);omega
    · have hoc:o ∉ cids c:=fun hm=>o3 (by rw [←k4];exact plug_mem.2 (.inr hm))
      rw [get_set_ne (fun e=>o3 (by rw [←e];exact hT')),w2 o (by rw [q4];omega) hoc,q3 o o2 hoc,i4 o o0 o2 o3]
    · show h.next≤h3.next;rw [q4]at w3;omega
   have go:Ev (cfgR ro) 193 [upOf c] h2 (fun v h3=>v=.tuple []∧At TS h3 .nilp (plug c (Rt.nil:Rt RunV))∧(∀o,o < h2.next→o ∉ cids c→h3.get o=h2.get o)∧h2.next≤h3.next):=by
    cases c with
    | nil=>exact climbNil ⟨rfl,trivial,fun _ _ _=>rfl,Nat.le_refl _⟩
    | cons f c=>
     obtain⟨l2,r2,w1,w2⟩:=Stl.up (t:=Rt.nil) trivial (CX.ca q2)
     have e:plug (f :: c) (Rt.nil:Rt RunV)=plug c (.node f.o f.ht f.x l2 r2):=by rw [plug,w1]
     have hids:∀o,o ∉ cids (f :: c)→o ∉ (plug c (.node f.o f.ht f.x l2 r2)).ids:=fun o ho hm=>by
      rw [←e]at hm
      rcases plug_mem.1 hm with h1 | h1
      · cases h1
      · exact ho h1
     refine climb_ev w2 (by rw [←e];exact plug_nd k1) (fun o ho=>by rw [←e]at ho;rw [q4];have:=hlt o (hsub o ho);omega) (by
      rw [←e];unfold Fit Rt.at_ Rt.rs at k3 ⊢;rw [plug_items]at k3 ⊢;simp [Rt.items,atomsN]at k3 ⊢;omega) (fun h3 t1 t2 t3=>⟨rfl,by rw [e];exact t1,fun o o0 ho=>t2 o o0 (hids o ho),t3⟩)
   refine Ev.mono go ?_
   rintro v h3 ⟨rfl,w1,w2,w3⟩
   have ja3:h3.get a=_:=(w2 a (by have:=hlt a hT';rw [q4];omega) hac).trans ja2
   simp -implicitDefEqProofs [ja3]
   exact done h3 w1 w2 w3 _
  | node ro' rh rx rl rr2=>
   obtain⟨⟨jrm,_,jr1⟩,_⟩:=at_node.1 jr
   rw [nrow]at jr1
   rw [ptr_nil,ptr_node]at ja
   simp -implicitDefEqProofs [ja]
   refine rise_ev (f:=⟨a,ht,y,false,.nil⟩) (c:=c) i1 i3 (riseF k1 k2) (fun o ho=>Nat.lt_of_lt_of_le (hlt o (by rw [←k4];exact ho)) i5) (Nat.lt_of_lt_of_le hlr i5) k3 (fun h4 d1 d2 d3 d4=>?_)
   simp -implicitDefEqProofs
   refine ih _ ?_ _ _ ⟨⟨ro',rh,rx,true,rr2⟩ :: c,ht,.nil,rl,_,_,rfl,by rw [←g1];simp [bef],by rw [←g2];simp [aft,Rt.items],d1,⟨s2,d2⟩,fun o o0 o2 o3=>by rw [d3 o (Nat.lt_of_lt_of_le o0 i5) o2 (fun hm=>o3 (by rw [←k4];exact hm)),i4 o o0 o2 o3],Nat.le_trans i5 d4,rfl⟩
   simp [Rt.items];try omega
 | node lo lh lx ll lr=>
  obtain⟨⟨jlm,_,jl1⟩,_⟩:=at_node.1 jl
  rw [nrow]at jl1
  cases r with
  | nil=>
   rw [ptr_nil,ptr_node]at ja
   simp -implicitDefEqProofs [ja,jl1]
   refine rise_ev (f:=⟨a,ht,y,true,.nil⟩) (c:=c) i1 i3 (riseF k1 k2) (fun o ho=>Nat.lt_of_lt_of_le (hlt o (by rw [←k4];exact ho)) i5) (Nat.lt_of_lt_of_le hlr i5) k3 (fun h4 d1 d2 d3 d4=>?_)
   simp -implicitDefEqProofs
   refine ih _ ?_ _ _ ⟨⟨lo,lh,lx,false,ll⟩ :: c,ht,lr,.nil,_,_,rfl,by rw [←g1];simp [bef,Rt.items],by rw [←g2];simp [aft],d1,⟨s2,d2⟩,fun o o0 o2 o3=>by rw [d3 o (Nat.lt_of_lt_of_le o0 i5) o2 (fun hm=>o3 (by rw [←k4];exact hm)),i4 o o0 o2 o3],Nat.le_trans i5 d4,rfl⟩
   simp [Rt.items];try omega
  | node ro' rh rx rl rr2=>
   obtain⟨⟨jrm,_,jr1⟩,_⟩:=at_node.1 jr
   rw [nrow]at jr1
   rw [ptr_node,ptr_node]at ja
   by_cases hh:(rh:Int) < (lh:Int)
   · simp -implicitDefEqProofs [ja,jl1,jr1,hh]
     refine rise_ev (f:=⟨a,ht,y,true,.node ro' rh rx rl rr2⟩) (c:=c) i1 i3 (riseF k1 k2) (fun o ho=>Nat.lt_of_lt_of_le (hlt o (by rw [←k4];exact ho)) i5) (Nat.lt_of_lt_of_le hlr i5) k3 (fun h4 d1 d2 d3 d4=>?_)
     simp -implicitDefEqProofs
     refine ih _ ?_ _ _ ⟨⟨lo,lh,lx,false,ll⟩ :: c,ht,lr,.node ro' rh rx rl rr2,_,_,rfl,by rw [←g1];simp [bef,Rt.items],by rw [←g2];simp [aft],d1,⟨s2,d2⟩,fun o o0 o2 o3=>by rw [d3 o (Nat.lt_of_lt_of_le o0 i5) o2 (fun hm=>o3 (by rw [←k4];exact hm)),i4 o o0 o2 o3],Nat.le_trans i5 d4,rfl⟩
     simp [Rt.items];try omega
   · simp -implicitDefEqProofs [ja,jl1,jr1,hh]
     refine rise_ev (f:=⟨a,ht,y,false,.node lo lh lx ll lr⟩) (c:=c) i1 i3 (riseF k1 k2) (fun o ho=>Nat.lt_of_lt_of_le (hlt o (by rw [←k4];exact ho)) i5) (Nat.lt_of_lt_of_le hlr i5) k3 (fun h4 d1 d2 d3 d4=>?_)
     simp -implicitDefEqProofs
     refine ih _ ?_ _ _ ⟨⟨ro',rh,rx,true,rr2⟩ :: c,ht,.node lo lh lx ll lr,rl,_,_,rfl,by rw [←g1];simp [bef],by rw [←g2];simp [aft,Rt.items],d1,⟨s2,d2⟩,fun o o0 o2 o3=>by rw [d3 o (Nat.lt_of_lt_of_le o0 i5) o2 (fun hm=>o3 (by rw [←k4];exact hm)),i4 o o0 o2 o3],Nat.le_trans i5 d4,rfl⟩
     simp [Rt.items];try omega
end
end Go.Proofs.YtlhlbamcgopiiaaGreatDoor
set_option linter.all false
set_option maxRecDepth 100000
set_option maxHeartbeats 4000000
namespace Go.Proofs.YtlhlbamcgopiiaaGreatDoor
open Go Go.RowKit Go.Proofs
def rsOf (L:List (Nat×RunV)):List RunV:=L.map (·.2)
theorem rsOf_append (a b:List (Nat×RunV)):rsOf (a++b)=rsOf a++rsOf b:=by simp [rsOf]
theorem Rp.old {z:List AVal×List AVal} {h h':AHeap} {rr:Nat} {t:Rt RunV} (R:Rp z h rr t) (o:Old h h'):Rp z h' rr t:=
 ⟨by obtain⟨s,hs⟩:=R.root;exact⟨s,by rw [o.2 rr R.lr];exact hs⟩,At.congr (fun q hq=>o.2 q (R.lt q hq)) R.tree,R.nd,R.rt,Nat.lt_of_lt_of_le R.lr o.1,fun q hq=>Nat.lt_of_lt_of_le (R.lt q hq) o.1⟩
@[simp] theorem mass_len (m:MassV):m.cells.length=4:=rfl
@[simp] theorem run_len (x:RunV):x.cells.length=7:=rfl
@[simp] theorem mass_take (m:MassV):takeR m.cells 0 4=.ok m.cells:=by simp [takeR,MassV.cells]
@[simp] theorem run_take (x:RunV):takeR x.cells 0 7=.ok x.cells:=by simp [takeR,RunV.cells]
section
variable {ro:Nat→Option (List AVal)} {z:List AVal×List AVal}
end
end Go.Proofs.YtlhlbamcgopiiaaGreatDoor
set_option linter.all false
set_option maxRecDepth 100000
set_option maxHeartbeats 4000000
namespace Go.Proofs.YtlhlbamcgopiiaaGreatDoor
open Go Go.RowKit Go.Proofs
theorem rs_plug (c:List (Frm RunV)) (t:Rt RunV):(plug c t).rs=rsOf (bef c)++t.rs++rsOf (aft c):=by
 unfold Rt.rs;rw [plug_items];simp [rsOf]
@[simp] theorem mass_over (m m':MassV):overR m.cells 0 m'.cells=.ok m'.cells:=by simp [overR,MassV.cells]
section
variable {ro:Nat→Option (List AVal)} {z:List AVal×List AVal}
theorem enough_ev {h:AHeap} {i:Int} {m:MassV} {q e:Nat} {fz:Bool} (hg:h.get q=some (.row e fz [.int .i64 i])) {Q:AVal→AHeap→Prop} (hq:Q (.bool (decide (i < (m.sh:Int)))) h):Ev (cfgR ro) 158 [.agg m.cells,.ptr q 0] h Q:=by
 refine Ev.wp rfl rfl Tryz.func158 rfl ?_
 simp -implicitDefEqProofs [Tryz.f158,hg,MassV.cells]
 exact hq
theorem rope_find {h:AHeap} {rr q e:Nat} {fz:Bool} {i:Int} {T:Rt RunV} (R:Rp z h rr T) (hfit:Fit T) (hi:0≤i) (hi2:i < ((shownTx T.rs).length:Int)) (hg:h.get q=some (.row e fz [.int .i64 i])) (hqn:q < h.next) {Q:AVal→AHeap→Prop}
 (hq:∀L1 a y L2 m h',Old h h'→T.items=L1++(a,y) :: L2→MassOf (rsOf L1) m→(m.sh:Int)≤i→i < (m.sh:Int)+((shownTx [y]).length:Int)→Q (.tuple [.ptr a 0,.agg m.cells]) h'):
 Ev (cfgR ro) 157 [.ptr rr z.1.length,.func 158 [] [.ptr q 0]] h Q:=by
 refine Ev.wp rfl rfl Tryz.func157 rfl ?_
 obtain⟨s,hr⟩:=R.root
 have hr':=hr
 rw [rrow]at hr'
 cases hT:T with
 | nil=>rw [hT]at hi2;simp [Rt.rs,Rt.items,shownTx]at hi2;omega
 | node o ht x l r=>
  have ha:=R.tree
  rw [hT]at ha hr'
  obtain⟨⟨mA,hmA,a1⟩,a2,a3⟩:=at_node.1 ha
  rw [nrow]at a1
  rw [ptr_node]at hr'
  have hA0:i < (mA.sh:Int):=by rw [hmA.sh,←rs_node o ht,←hT];exact hi2
  simp -implicitDefEqProofs [Tryz.f157,hr',a1]
  refine enough_ev (m:=mA) hg ?_
  simp -implicitDefEqProofs [hA0]
  refine scope_loop2 (by simp [findLabel]) (fun n1 env h'=>Old h h'∧∃c n ht x l r m0 z0 z24,T=plug c (.node n ht x l r)∧MassOf (rsOf (bef c)) m0∧(m0.sh:Int)≤i∧i < (m0.sh:Int)+((shownTx (Rt.node n ht x l r).rs).length:Int)∧n1=(Rt.node n ht x l r).items.length∧
   env=(z0 :: .func 158 [] [.ptr q 0] :: .dead :: .dead :: .dead :: .cell [.int .i64 0,.int .i64 0,.cplx .f64 0 0,.cplx .f64 0 0] :: .cell m0.cells :: .ptr n 0 :: .dead :: .dead :: .dead :: .dead :: .dead :: .dead :: .dead :: .dead :: .dead :: .dead :: .dead :: .dead :: .dead :: .dead :: .dead :: .dead :: z24 :: .dead :: .dead :: .dead :: .dead :: .dead :: .dead :: .dead :: .dead :: .dead :: .dead :: .dead :: .dead :: .dead :: .dead :: .dead :: .dead :: .dead :: .dead :: .dead :: .dead :: .dead :: .dead :: .dead :: .dead :: .dead :: .dead :: .dead :: .dead :: .dead :: .dead :: .dead :: .dead :: .dead :: .dead :: .dead :: .dead :: .dead :: .dead :: .dead :: .dead :: .dead :: .dead :: .dead :: .dead :: [])) ?_ _ ⟨Old.refl h,[],o,ht,x,l,r,⟨0,0,0,0,0,0⟩,_,_,hT,MassOf.nil,by simpa using hi,by rw [←hT];simpa using hi2,rfl,rfl⟩
  rintro m env h' ih ⟨ho,c,n,ht,x,l,r,m0,z0,z24,g1,g2,g3,g4,rfl,rfl⟩
  have R':=R.old ho
  have hA:At TS h' .nilp (plug c (.node n ht x l r)):=g1 ▸ R'.tree
  obtain⟨⟨jm,_,ja⟩,jl,jr⟩:=at_node.1 (At.split hA).1
  have ja':=ja
  rw [nrow]at ja'
  have hg':h'.get q=some (.row e fz [.int .i64 i]):=by rw [ho.2 q hqn];exact hg
  have hno:n < h'.next:=R'.lt n (by rw [g1];exact plug_mem.2 (.inl (by rw [ids_node];simp)))
  have hqn':q < h'.next:=Nat.lt_of_lt_of_le hqn ho.1
  have hfl:atomsN (rsOf (bef c))+(atomsN l.rs+(x.text.length+atomsN r.rs)) < 2 ^ 38:=by
   have:=hfit.2
   unfold Rt.at_ at this
   rw [g1,rs_plug,rs_node]at this
   simp only [atomsN_append]at this
   have e:atomsN (x :: r.rs)=x.text.length+atomsN r.rs:=by simp [atomsN]
   omega
  have hx1:atomsN [x]=x.text.length:=by simp [atomsN]
  have hsn:((shownTx (Rt.node n ht x l r).rs).length)=(shownTx l.rs).length+(shownTx [x]).length+(shownTx r.rs).length:=by
   rw [rs_node,show l.rs++x :: r.rs=l.rs++[x]++r.rs by simp,shownTx_append,shownTx_append,List.length_append,List.length_append]
  rw [hsn]at g4
  simp -implicitDefEqProofs [ja',undR,Tryz.underlying202,Tryz.underlying220,meth_run,meth_mass,same_self]
  refine sum_ev jl (fun m1 hm1=>?_)
  simp -implicitDefEqProofs [ja',undR,Tryz.underlying202,Tryz.underlying220,meth_run,meth_mass,same_self]
  refine mplus_ev g2 hm1 (by omega) (fun m2 h2 o2 hm2=>?_)
  have ja2:=ja'
  rw [←o2.2 _ hno]at ja2
  have hg2:h2.get q=some (.row e fz [.int .i64 i]):=by rw [o2.2 q hqn'];exact hg'
  have hl2:m2.sh=m0.sh+(shownTx l.rs).length:=by rw [hm2.sh,shownTx_append,List.length_append,g2.sh]
  have hqe:∀h9,Old h' h9→(m2.sh:Int)≤i→i < (m2.sh:Int)+((shownTx [x]).length:Int)→Q (.tuple [.ptr n 0,.agg m2.cells]) h9:=by
   intro h9 o9 k1 k2
   refine hq (bef c++l.items) n x (r.items++aft c) m2 h9 (ho.trans o9) ?_ (by rw [rsOf_append];exact hm2) k1 k2
   rw [g1,plug_items,items_node];simp
  have right:∀z0 z24 h9 m3,Old h' h9→MassOf (rsOf (bef c)++l.rs++[x]) m3→(m3.sh:Int)≤i→∀o3 h3 x3 l3 r3,r=.node o3 h3 x3 l3 r3→
   (Old h h9∧∃c2 n2 ht2 x2 l2 r2 m02 z02 z242,T=plug c2 (.node n2 ht2 x2 l2 r2)∧MassOf (rsOf (bef c2)) m02∧(m02.sh:Int)≤i∧i < (m02.sh:Int)+((shownTx (Rt.node n2 ht2 x2 l2 r2).rs).length:Int)∧r.items.length=(Rt.node n2 ht2 x2 l2 r2).items.length∧
   (z0 :: .func 158 [] [.ptr q 0] :: .dead :: .dead :: .dead :: .cell [.int .i64 0,.int .i64 0,.cplx .f64 0 0,.cplx .f64 0 0] :: .cell m3.cells :: r.ptr :: .dead :: .dead :: .dead :: .dead :: .dead :: .dead :: .dead :: .dead :: .dead :: .dead :: .dead :: .dead :: .dead :: .dead :: .dead :: .dead :: z24 :: .dead :: .dead :: .dead :: .dead :: .dead :: .dead :: .dead :: .dead :: .dead :: .dead :: .dead :: .dead :: .dead :: .dead :: .dead :: .dead :: .dead :: .dead :: .dead :: .dead :: .dead :: .dead :: .dead :: .dead :: .dead :: .dead :: .dead :: .dead :: .dead :: .dead :: .dead :: .dead :: .dead :: .dead :: .dead :: .dead :: .dead :: .dead :: .dead :: .dead :: .dead :: .dead :: .dead :: .dead :: [])=(z02 :: .func 158 [] [.ptr q 0] :: .dead :: .dead :: .dead :: .cell [.int .i64 0,.int .i64 0,.cplx .f64 0 0,.cplx .f64 0 0] :: .cell m02.cells :: .ptr n2 0 :: .dead :: .dead :: .dead :: .dead :: .dead :: .dead :: .dead :: .dead :: .dead :: .dead :: .dead :: .dead :: .dead :: .dead :: .dead :: .dead :: z242 :: .dead :: .dead :: .dead :: .dead :: .dead :: .dead :: .dead :: .dead :: .dead :: .dead :: .dead :: .dead :: .dead :: .dead :: .dead :: .dead :: .dead :: .dead :: .dead :: .dead :: .dead :: .dead :: .dead :: .dead :: .dead :: .dead :: .dead :: .dead :: .dead :: .dead :: .dead :: .dead :: .dead :: .dead :: .dead :: .dead :: .dead :: .dead :: .dead :: .dead :: .dead :: .dead :: .dead :: .dead :: [])):=by
   intro z0 z24 h9 m3 o9 hm3 k1 o3 h3 x3 l3 r3 e3
   have hl3:m3.sh=m2.sh+(shownTx [x]).length:=by rw [hm3.sh,shownTx_append,List.length_append,hm2.sh]
   subst e3
   refine⟨ho.trans o9,⟨n,ht,x,false,l⟩ :: c,o3,h3,x3,l3,r3,m3,z0,z24,by rw [g1];rfl,?_,k1,by omega,rfl,rfl⟩
   show MassOf (rsOf (bef c++(l.items++[(n,x)]))) m3
   rw [rsOf_append,rsOf_append,←List.append_assoc]
   exact hm3
  simp -implicitDefEqProofs [ja',ja2,undR,Tryz.underlying202,Tryz.underlying220,meth_run,meth_mass,same_self]
  have meas:∀(K:AVal→AHeap→Prop),(∀h3 m3,Old h2 h3→MassOf [x] m3→K (.agg m3.cells) h3)→Ev (cfgR ro) 265 [.agg x.cells] h2 K:=fun K hK=>measure_ev (x:=x) (by omega) (fun m3 h3 o3 hm3=>hK h3 m3 o3 hm3)
  cases hll:l with
  | nil=>
   have hpl:l.ptr=.nilp:=by rw [hll];rfl
   have htl:(shownTx l.rs).length=0:=by rw [hll];rfl
   rw [hpl]at ja' ja2
   have hlt0:(m2.sh:Int)≤i:=by omega
   simp -implicitDefEqProofs [ja',ja2,undR,Tryz.underlying202,Tryz.underlying220,meth_run,meth_mass,same_self,hpl,ptr_nil,ptr_node]
   refine meas _ (fun h3 m3 o3 hm3=>?_)
   have ja3:=ja2
   rw [←o3.2 _ (Nat.lt_of_lt_of_le hno o2.1)]at ja3
   simp -implicitDefEqProofs [ja',ja2,undR,Tryz.underlying202,Tryz.underlying220,meth_run,meth_mass,same_self,hpl,ptr_nil,ptr_node,ja3]
   refine mplus_ev hm2 hm3 (by rw [atomsN_append];omega) (fun m4 h4 o4 hm4=>?_)
   have o24:=o3.trans o4
   have ja4:=ja2
   rw [←o24.2 _ (Nat.lt_of_lt_of_le hno o2.1)]at ja4
   have hg4:h4.get q=some (.row e fz [.int .i64 i]):=by rw [o24.2 q (Nat.lt_of_lt_of_le hqn' o2.1)];exact hg2
   simp -implicitDefEqProofs [ja',ja2,undR,Tryz.underlying202,Tryz.underlying220,meth_run,meth_mass,same_self,hpl,ptr_nil,ptr_node,ja3,ja4]
   refine enough_ev (m:=m4) hg4 ?_
   have hl4:m4.sh=m2.sh+(shownTx [x]).length:=by rw [hm4.sh,shownTx_append,List.length_append,hm2.sh]
   by_cases hge:i < (m4.sh:Int)
   · simp -implicitDefEqProofs [hge]
     exact hqe h4 (o2.trans o24) hlt0 (by omega)
   · cases hrr:r with
     | nil=>
      have htr:(shownTx r.rs).length=0:=by rw [hrr];rfl
      exfalso
      omega
     | node o3' h3' x3 l3 r3=>
      obtain⟨k1,k2⟩:=right _ _ h4 m4 (o2.trans o24) hm4 (by omega) _ _ _ _ _ hrr
      simp -implicitDefEqProofs [ja',ja2,undR,Tryz.underlying202,Tryz.underlying220,meth_run,meth_mass,same_self,hpl,ptr_nil,ptr_node,ja3,ja4,hge]
      exact ih _ (by simp [Rt.items];omega) _ _ ⟨k1,k2⟩
  | node o2' h2' x2 l2 r2=>
   have hpl:l.ptr=.ptr o2' 0:=by rw [hll];rfl
   rw [hpl]at ja' ja2
   simp -implicitDefEqProofs [ja',ja2,undR,Tryz.underlying202,Tryz.underlying220,meth_run,meth_mass,same_self,hpl,ptr_nil,ptr_node]
   refine enough_ev (m:=m2) hg2 ?_
   by_cases hle:i < (m2.sh:Int)
   · simp -implicitDefEqProofs [ja',ja2,undR,Tryz.underlying202,Tryz.underlying220,meth_run,meth_mass,same_self,hpl,ptr_nil,ptr_node,hle]
     refine ih l.items.length (by simp [Rt.items]) _ _ ⟨ho.trans o2,⟨n,ht,x,true,r⟩ :: c,o2',h2',x2,l2,r2,m0,_,_,?_,?_,g3,?_,by rw [hll],rfl⟩
     · rw [g1,hll];rfl
     · show MassOf (rsOf (bef c++[])) m0
       rw [List.append_nil];exact g2
     · rw [←hll];omega
   · have hlt0:(m2.sh:Int)≤i:=by omega
     simp -implicitDefEqProofs [ja',ja2,undR,Tryz.underlying202,Tryz.underlying220,meth_run,meth_mass,same_self,hpl,ptr_nil,ptr_node,hle]
     refine meas _ (fun h3 m3 o3 hm3=>?_)
     have ja3:=ja2
     rw [←o3.2 _ (Nat.lt_of_lt_of_le hno o2.1)]at ja3
     simp -implicitDefEqProofs [ja',ja2,undR,Tryz.underlying202,Tryz.underlying220,meth_run,meth_mass,same_self,hpl,ptr_nil,ptr_node,hle,ja3]
     refine mplus_ev hm2 hm3 (by rw [atomsN_append];omega) (fun m4 h4 o4 hm4=>?_)
     have o24:=o3.trans o4
     have ja4:=ja2
     rw [←o24.2 _ (Nat.lt_of_lt_of_le hno o2.1)]at ja4
     have hg4:h4.get q=some (.row e fz [.int .i64 i]):=by rw [o24.2 q (Nat.lt_of_lt_of_le hqn' o2.1)];exact hg2
     simp -implicitDefEqProofs [ja',ja2,undR,Tryz.underlying202,Tryz.underlying220,meth_run,meth_mass,same_self,hpl,ptr_nil,ptr_node,hle,ja3,ja4]
     refine enough_ev (m:=m4) hg4 ?_
     have hl4:m4.sh=m2.sh+(shownTx [x]).length:=by rw [hm4.sh,shownTx_append,List.length_append,hm2.sh]
     by_cases hge:i < (m4.sh:Int)
     · simp -implicitDefEqProofs [hge]
       exact hqe h4 (o2.trans o24) hlt0 (by omega)
     · cases hrr:r with
       | nil=>
        have htr:(shownTx r.rs).length=0:=by rw [hrr];rfl
        exfalso
        omega
       | node o3' h3' x3 l3 r3=>
        obtain⟨k1,k2⟩:=right _ _ h4 m4 (o2.trans o24) hm4 (by omega) _ _ _ _ _ hrr
        simp -implicitDefEqProofs [ja',ja2,undR,Tryz.underlying202,Tryz.underlying220,meth_run,meth_mass,same_self,hpl,ptr_nil,ptr_node,hle,ja3,ja4,hge]
        exact ih _ (by simp [Rt.items];omega) _ _ ⟨k1,k2⟩
end
end Go.Proofs.YtlhlbamcgopiiaaGreatDoor
set_option linter.all false
set_option maxRecDepth 100000
set_option maxHeartbeats 4000000
namespace Go.Proofs.YtlhlbamcgopiiaaGreatDoor
open Go Go.RowKit Go.Proofs
def idA (r n:Nat):AVal:=.agg [.int .u16 r,.int .u32 n]
def keyA (c r n:Nat):AVal:=.agg [.int .u64 c,.int .u16 r,.int .u32 n]
section
variable {ro:Nat→Option (List AVal)}
theorem u32_add {n k:Nat} (h:n+k < 2 ^ 32):IntKind.u32.wrap ((n:Int)+IntKind.u32.wrap (k:Int))=((n+k:Nat):Int):=by
 rw [wrap32,wrap32,Int.emod_eq_of_lt (by omega) (by omega),Int.emod_eq_of_lt (by omega) (by omega)];omega
theorem idPlus_ev {h:AHeap} {r n k:Nat} (hk:n+k < 2 ^ 32) {Q:AVal→AHeap→Prop} (hq:Q (idA r (n+k)) h):Ev (cfgR ro) 119 [idA r n,.int .i64 k] h Q:=by
 refine Ev.wp rfl rfl Tryz.func119 rfl ?_
 have e:=u32_add hk
 obtain⟨m,hm⟩:∃m,m=n+k:=⟨_,rfl⟩
 rw [←hm]at e hq
 simp only [idA]at hq
 simp -implicitDefEqProofs [Tryz.f119,idA,e]
 exact hq
theorem keyPlus_ev {h:AHeap} {c r n k:Nat} (hk:n+k < 2 ^ 32) {Q:AVal→AHeap→Prop} (hq:Q (keyA c r (n+k)) h):Ev (cfgR ro) 116 [keyA c r n,.int .i64 k] h Q:=by
 refine Ev.wp rfl rfl Tryz.func116 rfl ?_
 have e:=u32_add hk
 obtain⟨m,hm⟩:∃m,m=n+k:=⟨_,rfl⟩
 rw [←hm]at e hq
 simp only [keyA]at hq
 simp -implicitDefEqProofs [Tryz.f116,keyA,e]
 exact hq
theorem keyID_ev {h:AHeap} {c r n:Nat} {Q:AVal→AHeap→Prop} (hq:Q (idA r n) h):Ev (cfgR ro) 93 [keyA c r n] h Q:=by
 refine Ev.wp rfl rfl Tryz.func93 rfl ?_
 simp only [idA]at hq
 simp -implicitDefEqProofs [Tryz.f93,keyA]
 exact hq
theorem idRight_ev {h:AHeap} {r n:Nat} {Q:AVal→AHeap→Prop} (hq:Q (.bool (decide (1≤n∧n≤268435456))) h):Ev (cfgR ro) 152 [idA r n] h Q:=by
 refine Ev.wp rfl rfl Tryz.func152 rfl ?_
 by_cases h1:1≤n
 · have d1:decide (1≤(n:Int))=true:=decide_eq_true (by omega)
   have d2:decide ((n:Int)≤268435456)=decide (n≤268435456):=by apply decide_eq_decide.2;omega
   simp only [h1,true_and]at hq
   simp -implicitDefEqProofs [Tryz.f152,idA,d1,d2]
   first | exact hq | simpa using hq
 · have d1:decide (1≤(n:Int))=false:=decide_eq_false (by omega)
   simp only [h1,false_and]at hq
   simp -implicitDefEqProofs [Tryz.f152,idA,d1]
   first | exact hq | simpa using hq
theorem eqID0 (h:AHeap) (a b c d:Nat):eqIn (cfgR ro) h 10000 55 (.agg [.int .u16 a,.int .u32 b]) (.agg [.int .u16 c,.int .u32 d])=(match (a:Int) == (c:Int)with | true=>(match (b:Int) == (d:Int)with | true=>.ok true | false=>.ok false) | false=>.ok false):=by kernel_rfl
theorem eqID (h:AHeap) (a b c d:Nat):eqIn (cfgR ro) h 10000 55 (.agg [.int .u16 a,.int .u32 b]) (.agg [.int .u16 c,.int .u32 d])=.ok (decide (a=c∧b=d)):=by
 rw [eqID0]
 by_cases e1:a=c
 · by_cases e2:b=d
   · subst e1;subst e2;simp
   · have:((b:Int) == (d:Int))=false:=by simp;omega
     simp [e1,e2,this]
 · have:((a:Int) == (c:Int))=false:=by simp;omega
   simp [e1,this]
theorem eqKey0 (h:AHeap) (z a b y c d:Nat):eqIn (cfgR ro) h 10000 88 (.agg [.int .u64 z,.int .u16 a,.int .u32 b]) (.agg [.int .u64 y,.int .u16 c,.int .u32 d])=(match (z:Int) == (y:Int)with | true=>(match (a:Int) == (c:Int)with | true=>(match (b:Int) == (d:Int)with | true=>.ok true | false=>.ok false) | false=>.ok false) | false=>.ok false):=by kernel_rfl
theorem eqKey (h:AHeap) (z a b y c d:Nat):eqIn (cfgR ro) h 10000 88 (.agg [.int .u64 z,.int .u16 a,.int .u32 b]) (.agg [.int .u64 y,.int .u16 c,.int .u32 d])=.ok (decide (z=y∧a=c∧b=d)):=by
 rw [eqKey0]
 by_cases e0:z=y
 · by_cases e1:a=c
   · by_cases e2:b=d
     · subst e0;subst e1;subst e2;simp
     · have:((b:Int) == (d:Int))=false:=by simp;omega
       simp [e0,e1,e2,this]
   · have:((a:Int) == (c:Int))=false:=by simp;omega
     simp [e0,e1,this]
 · have:((z:Int) == (y:Int))=false:=by simp;omega
   simp [e0,this]
theorem eqLID:eqL 55=true:=by decide
theorem eqLKey:eqL 88=true:=by decide
theorem idRoot_ev (hro:ro 0=some [.int .u16 0,.int .u32 0]) {h:AHeap} {r n:Nat} {Q:AVal→AHeap→Prop} (hq:Q (.bool (decide (r=0∧n=0))) h):Ev (cfgR ro) 51 [idA r n] h Q:=by
 refine Ev.wp rfl rfl Tryz.func51 rfl ?_
 have e:=eqID (ro:=ro) h r n 0 0
 simp -implicitDefEqProofs [Tryz.f51,idA,hro,eqLID]
 rw [show((0:Nat):Int)=0 from rfl]at e
 rw [e]
 simp -implicitDefEqProofs
 first | exact hq | simpa using hq
theorem rAtom_ev {h:AHeap} {x:RunV} {k:Nat} (hk:x.n+k < 2 ^ 32) {Q:AVal→AHeap→Prop} (hq:Q (idA x.r (x.n+k)) h):Ev (cfgR ro) 170 [.agg x.cells,.int .i64 k] h Q:=by
 refine Ev.wp rfl rfl Tryz.func170 rfl ?_
 simp -implicitDefEqProofs [Tryz.f170,RunV.cells]
 refine keyID_ev ?_
 simp -implicitDefEqProofs [idA]
 refine idPlus_ev hk ?_
 simp only [idA]at hq
 simp -implicitDefEqProofs [idA]
 exact hq
theorem rLast_ev {h:AHeap} {x:RunV} (hp:0 < x.text.length) (hk:x.n+x.text.length < 2 ^ 32) {Q:AVal→AHeap→Prop} (hq:Q (idA x.r (x.n+(x.text.length - 1))) h):Ev (cfgR ro) 125 [.agg x.cells] h Q:=by
 refine Ev.wp rfl rfl Tryz.func125 rfl ?_
 have w1:IntKind.i64.wrap ((x.text.length:Int) - 1)=((x.text.length - 1:Nat):Int):=by rw [w64 (by omega) (by omega)];omega
 obtain⟨m,hm⟩:∃m,m=x.text.length - 1:=⟨_,rfl⟩
 rw [←hm]at w1 hq
 simp -implicitDefEqProofs [Tryz.f125,RunV.cells]
 refine rlen_ev (x:=x) ?_
 simp -implicitDefEqProofs [w1,same_self]
 refine rAtom_ev (x:=x) (k:=m) (by omega) ?_
 simp only [idA]at hq
 simp -implicitDefEqProofs [idA,same_self]
 exact hq
end
end Go.Proofs.YtlhlbamcgopiiaaGreatDoor
set_option linter.all false
set_option maxRecDepth 100000
set_option maxHeartbeats 4000000
namespace Go.Proofs.YtlhlbamcgopiiaaGreatDoor
open Go Go.RowKit Go.Proofs
structure RunOk (x:RunV):Prop where
 pos:0 < x.text.length
 len:x.text.length≤1024
 n1:1≤x.n
 n2:x.n+x.text.length≤2 ^ 28+1
 e1:1≤x.en
 e2:x.en+x.text.length≤2 ^ 28+1
def RunV.has (x:RunV) (ar an:Nat):Prop:=ar=x.r∧x.n≤an∧an < x.n+x.text.length
instance (x:RunV) (ar an:Nat):Decidable (x.has ar an):=by unfold RunV.has;infer_instance
section
variable {ro:Nat→Option (List AVal)}
theorem rHas_ev {h:AHeap} {x:RunV} {ar an:Nat} (hx:RunOk x) (ha:an < 2 ^ 32) {Q:AVal→AHeap→Prop} (hq1:x.has ar an→Q (.tuple [.int .i64 ((an - x.n:Nat):Int),.bool true]) h) (hq2:¬x.has ar an→Q (.tuple [.int .i64 0,.bool false]) h):Ev (cfgR ro) 185 [.agg x.cells,idA ar an] h Q:=by
 refine Ev.wp rfl rfl Tryz.func185 rfl ?_
 obtain⟨p1,p2,p3,p4,p5,p6⟩:=hx
 unfold RunV.has at hq1 hq2
 by_cases c1:ar=x.r
 · by_cases c2:an < x.n
   · have d2:decide ((an:Int) < (x.n:Int))=true:=decide_eq_true (by omega)
     simp -implicitDefEqProofs [Tryz.f185,RunV.cells,idA,c1,c2,d2]
     exact hq2 (by omega)
   · have d2:decide ((an:Int) < (x.n:Int))=false:=decide_eq_false (by omega)
     simp -implicitDefEqProofs [Tryz.f185,RunV.cells,idA,c1,c2,d2,same_self]
     refine rLast_ev (x:=x) p1 (by omega) ?_
     obtain⟨m,hm⟩:∃m,m=x.n+(x.text.length - 1):=⟨_,rfl⟩
     rw [←hm]
     by_cases c3:m < an
     · have d3:decide ((m:Int) < (an:Int))=true:=decide_eq_true (by omega)
       simp -implicitDefEqProofs [idA,c3,d3,same_self]
       exact hq2 (by omega)
     · have d3:decide ((m:Int) < (an:Int))=false:=decide_eq_false (by omega)
       have e1:IntKind.i64.wrap (IntKind.u32.wrap ((an:Int) - (x.n:Int)))=((an - x.n:Nat):Int):=by
        rw [wrap32,Int.emod_eq_of_lt (by omega) (by omega),w64 (by omega) (by omega)];omega
       simp -implicitDefEqProofs [idA,c3,d3,same_self,e1]
       exact hq1 ⟨c1,by omega,by omega⟩
 · have d1:¬((ar:Int)=(x.r:Int)):=by omega
   simp -implicitDefEqProofs [Tryz.f185,RunV.cells,idA,c1,d1]
   exact hq2 (fun hh=>c1 hh.1)
def RunV.fst (x:RunV) (k:Nat):RunV:={ x with text:=x.text.take k }
def RunV.snd (x:RunV) (k:Nat):RunV:={ x with text:=x.text.drop k,n:=x.n+k,en:=x.en+k }
def zeroRun:AVal:=.agg [.int .u64 0,.int .u16 0,.int .u32 0,.int .u16 0,.int .u32 0,.str [],.bool false]
theorem rCut_ev {h:AHeap} {x:RunV} {k:Nat} (hx:RunOk x) (hk:k < 2 ^ 60) {Q:AVal→AHeap→Prop} (hq1:1≤k→k < x.text.length→Q (.tuple [.agg (x.fst k).cells,.agg (x.snd k).cells,.bool true]) h) (hq2:(k < 1∨x.text.length≤k)→Q (.tuple [zeroRun,zeroRun,.bool false]) h):Ev (cfgR ro) 192 [.agg x.cells,.int .i64 k] h Q:=by
 refine Ev.wp rfl rfl Tryz.func192 rfl ?_
 obtain⟨p1,p2,p3,p4,p5,p6⟩:=hx
 simp only [zeroRun]at hq2
 by_cases c1:k < 1
 · have hk0:k=0:=by omega
   subst hk0
   simp -implicitDefEqProofs [Tryz.f192,RunV.cells,same_self]
   exact hq2 (.inl (by omega))
 · have d1:decide ((k:Int) < 1)=false:=decide_eq_false (by omega)
   have e0:¬k=0:=by omega
   simp -implicitDefEqProofs [Tryz.f192,RunV.cells,d1,e0,same_self]
   refine rlen_ev (x:=x) ?_
   by_cases c2:x.text.length≤k
   · have d2:decide ((x.text.length:Int)≤(k:Int))=true:=decide_eq_true (by omega)
     simp -implicitDefEqProofs [c2,d2,same_self]
     exact hq2 (.inr c2)
   · have d2:decide ((x.text.length:Int)≤(k:Int))=false:=decide_eq_false (by omega)
     have b1:boundR (.int .i64 (k:Int)) x.text.length=.ok k:=bd_nat (by omega)
     have hq:=hq1 (by omega) (by omega)
     simp only [RunV.fst,RunV.snd,RunV.cells]at hq
     simp -implicitDefEqProofs [c2,d2,b1,bounds2,same_self]
     refine keyPlus_ev (c:=x.clock) (r:=x.r) (n:=x.n) (k:=k) (by omega) ?_
     obtain⟨m1,hm1⟩:∃m1,m1=x.n+k:=⟨_,rfl⟩
     obtain⟨m2,hm2⟩:∃m2,m2=x.en+k:=⟨_,rfl⟩
     rw [←hm1,←hm2]at hq
     rw [←hm1]
     simp -implicitDefEqProofs [keyA,b1,bounds2,same_self]
     refine idPlus_ev (r:=x.er) (n:=x.en) (k:=k) (by omega) ?_
     rw [←hm2]
     simp -implicitDefEqProofs [idA,b1,bounds2,same_self]
     exact hq
def RunV.joins (x y:RunV):Prop:=(x.clock=y.clock∧x.r=y.r∧x.n+x.text.length=y.n)∧(x.er=y.er∧x.en+x.text.length=y.en)∧x.shown=y.shown∧x.text.length+y.text.length≤1024
def RunV.join (x y:RunV):RunV:={ x with text:=x.text++y.text }
instance (x y:RunV):Decidable (x.joins y):=by unfold RunV.joins;infer_instance
theorem rJoin_ev {h:AHeap} {x y:RunV} (hx:RunOk x) (hy:RunOk y) {Q:AVal→AHeap→Prop} (hq1:x.joins y→Q (.tuple [.agg (x.join y).cells,.bool true]) h) (hq2:¬x.joins y→Q (.tuple [zeroRun,.bool false]) h):Ev (cfgR ro) 194 [.agg x.cells,.agg y.cells] h Q:=by
 refine Ev.wp rfl rfl Tryz.func194 rfl ?_
 obtain⟨p1,p2,p3,p4,p5,p6⟩:=hx
 obtain⟨q1,q2,q3,q4,q5,q6⟩:=hy
 simp only [zeroRun,RunV.joins]at hq2 hq1
 have hq:_→Q _ h:=hq1
 simp only [RunV.join,RunV.cells]at hq
 obtain⟨m1,hm1⟩:∃m1,m1=x.n+x.text.length:=⟨_,rfl⟩
 obtain⟨m2,hm2⟩:∃m2,m2=x.en+x.text.length:=⟨_,rfl⟩
 obtain⟨l,hl⟩:∃l,l=x.text.length+y.text.length:=⟨_,rfl⟩
 have hw:IntKind.i64.wrap ((x.text.length:Int)+(y.text.length:Int))=(l:Int):=by rw [w64 (by omega) (by omega)];omega
 have hs:¬(9223372036854775807:Int) < (x.text.length:Int)+(y.text.length:Int):=by omega
 rw [←hm1,←hm2,←hl]at hq hq2
 have ek:=eqKey (ro:=ro) h x.clock x.r m1 y.clock y.r y.n
 have ei:=eqID (ro:=ro) h x.er m2 y.er y.en
 simp -implicitDefEqProofs [Tryz.f194,RunV.cells,same_self]
 refine rlen_ev (x:=x) ?_
 simp -implicitDefEqProofs [same_self]
 refine keyPlus_ev (c:=x.clock) (r:=x.r) (n:=x.n) (k:=x.text.length) (by omega) ?_
 rw [←hm1]
 by_cases c1:x.clock=y.clock∧x.r=y.r∧m1=y.n
 · rw [decide_eq_true c1]at ek
   simp -implicitDefEqProofs [keyA,same_self,eqLKey,ek]
   refine rlen_ev (x:=x) ?_
   simp -implicitDefEqProofs [same_self,eqLKey,ek]
   refine idPlus_ev (r:=x.er) (n:=x.en) (k:=x.text.length) (by omega) ?_
   rw [←hm2]
   by_cases c2:x.er=y.er∧m2=y.en
   · rw [decide_eq_true c2]at ei
     simp -implicitDefEqProofs [idA,keyA,same_self,eqLID,ei,eqLKey,ek]
     have eb:eqFlat Tryz.prog h .bool (.bool x.shown) (.bool y.shown)=.ok (x.shown == y.shown):=by rfl
     by_cases c3:x.shown=y.shown
     · have eb2:(x.shown == y.shown)=true:=by simpa using c3
       rw [eb2]at eb
       simp -implicitDefEqProofs [eb,idA,keyA,same_self,eqLID,ei,eqLKey,ek]
       refine rlen_ev (x:=x) ?_
       simp -implicitDefEqProofs [eb,idA,keyA,same_self,eqLID,ei,eqLKey,ek]
       refine rlen_ev (x:=y) ?_
       by_cases c4:l≤1024
       · have d4:decide ((1024:Int) < (l:Int))=false:=decide_eq_false (by omega)
         have d5:¬1024 < l:=by omega
         simp -implicitDefEqProofs [eb,idA,keyA,same_self,eqLID,ei,eqLKey,ek,hw,d4,d5,hs]
         exact hq ⟨c1,c2,c3,c4⟩
       · have d4:decide ((1024:Int) < (l:Int))=true:=decide_eq_true (by omega)
         have d5:1024 < l:=by omega
         simp -implicitDefEqProofs [eb,idA,keyA,same_self,eqLID,ei,eqLKey,ek,hw,d4,d5]
         exact hq2 (fun hh=>c4 hh.2.2.2)
     · have eb2:(x.shown == y.shown)=false:=by simpa using c3
       rw [eb2]at eb
       simp -implicitDefEqProofs [eb,idA,keyA,same_self,eqLID,ei,eqLKey,ek]
       exact hq2 (fun hh=>c3 hh.2.2.1)
   · rw [decide_eq_false c2]at ei
     simp -implicitDefEqProofs [idA,keyA,same_self,eqLID,ei,eqLKey,ek]
     exact hq2 (fun hh=>c2 hh.2.1)
 · rw [decide_eq_false c1]at ek
   simp -implicitDefEqProofs [keyA,same_self,eqLKey,ek]
   exact hq2 (fun hh=>c1 hh.1)
end
end Go.Proofs.YtlhlbamcgopiiaaGreatDoor
set_option linter.all false
set_option maxRecDepth 100000
set_option maxHeartbeats 4000000
namespace Go.Proofs.YtlhlbamcgopiiaaGreatDoor
open Go Go.RowKit Go.Proofs
def plainB (b:UInt8):Bool:=decide (b.toNat=10∨(32≤b.toNat∧b.toNat≤126))
def plain (s:Str):Bool:=s.all plainB
theorem plain_step (s:Str) (i:Nat) (hi:i < s.length):plain (s.drop i)=(plainB (s[i]'hi) && plain (s.drop (i+1))):=by
 unfold plain
 rw [List.drop_eq_getElem_cons hi,List.all_cons]
section
variable {ro:Nat→Option (List AVal)}
theorem plain_ev {h:AHeap} {s:Str} (hl:s.length < 2 ^ 60) {Q:AVal→AHeap→Prop} (hq:∀h',Old h h'→Q (.bool (plain s)) h'):Ev (cfgR ro) 97 [.str s] h Q:=by
 refine Ev.wp rfl rfl Tryz.func97 rfl ?_
 simp -implicitDefEqProofs [Tryz.f97]
 obtain⟨H,hH⟩:∃H,H=h.push (.row 1 true (s.map fun x=>.int .u8 (x.toNat:Int))):=⟨_,rfl⟩
 have ho:Old h H:=by rw [hH];exact(Old.refl h).push _
 have hg:H.get h.next=some (.row 1 true (s.map fun x=>.int .u8 (x.toNat:Int))):=by rw [hH,AHeap.get_push,if_pos rfl]
 rw [←hH]
 obtain⟨I,hI⟩:∃I:Nat→List AVal→AHeap→Prop,I=fun m env h'=>h'=H∧∃i,m=s.length - i∧i≤s.length∧plain s=plain (s.drop i)∧env=(.dead :: .dead :: .dead :: .dead :: .dead :: .dead :: .sl h.next 0 s.length :: .int .i64 s.length :: .int .i64 (i:Nat) :: .dead :: .dead :: .dead :: .dead :: .dead :: .dead :: .dead :: .dead :: .dead :: .dead :: .dead :: .dead :: .dead :: .dead :: []):=⟨_,rfl⟩
 refine loop_of I ?_ s.length (by rw [hI];exact⟨rfl,0,by simp,Nat.zero_le _,rfl,rfl⟩)
 intro m env h' hi
 rw [hI]at hi
 obtain⟨rfl,i,rfl,g1,g2,rfl⟩:=hi
 by_cases hlt:i < s.length
 · have d1:decide ((i:Int) < (s.length:Int))=true:=decide_eq_true (by omega)
   obtain⟨b,hb⟩:∃b,b=s[i]:=⟨_,rfl⟩
   have hx:idxNat (.int .i64 (i:Int)) s.length=.ok i:=ix_nat hlt
   have hn:nthR (s.map fun x=>AVal.int .u8 (x.toNat:Int)) i=.ok (.int .u8 (b.toNat:Int)):=nthR_get (by rw [List.getElem?_map,List.getElem?_eq_getElem hlt,hb];rfl)
   have hw:IntKind.i64.wrap ((i:Int)+1)=((i+1:Nat):Int):=by rw [w64 (by omega) (by omega)];omega
   have hs:=plain_step s i hlt
   rw [←hb]at hs
   obtain⟨n,hnn⟩:∃n,n=b.toNat:=⟨_,rfl⟩
   unfold plainB at hs
   rw [←hnn]at hs hn
   obtain⟨i1,hi1⟩:∃i1,i1=i+1:=⟨_,rfl⟩
   rw [←hi1]at hw hs
   have no:¬(n=10∨(32≤n∧n≤126))→Q (.bool false) h':=fun hh=>by
    have:=hq h' ho
    rw [g2,hs,decide_eq_false hh,Bool.false_and]at this;exact this
   have yes:(n=10∨(32≤n∧n≤126))→plain s=plain (s.drop i1):=fun hh=>by rw [g2,hs,decide_eq_true hh,Bool.true_and]
   have go:plain s=plain (s.drop i1)→I (s.length - i1) ((.dead :: .dead :: .dead :: .dead :: .dead :: .dead :: .sl h.next 0 s.length :: .int .i64 s.length :: .int .i64 (i1:Nat) :: .dead :: .dead :: .dead :: .dead :: .dead :: .dead :: .dead :: .dead :: .dead :: .dead :: .dead :: .dead :: .dead :: .dead :: [])) h':=fun hh=>by rw [hI];exact⟨rfl,i1,rfl,by omega,hh,rfl⟩
   by_cases c1:n=10
   · subst c1
     simp -implicitDefEqProofs [d1,hlt,hx,hg,hn,hw]
     exact .mk (m:=s.length - i1) (by omega) (go (yes (.inl rfl)))
   · have e1:¬((n:Int)=10):=by omega
     by_cases c2:n < 32
     · have d2:decide ((n:Int) < 32)=true:=decide_eq_true (by omega)
       simp -implicitDefEqProofs [d1,hlt,hx,hg,hn,hw,c1,e1,c2,d2]
       exact no (by omega)
     · have d2:decide ((n:Int) < 32)=false:=decide_eq_false (by omega)
       by_cases c3:126 < n
       · have d3:decide (126 < (n:Int))=true:=decide_eq_true (by omega)
         simp -implicitDefEqProofs [d1,hlt,hx,hg,hn,hw,c1,e1,c2,d2,c3,d3]
         exact no (by omega)
       · have d3:decide (126 < (n:Int))=false:=decide_eq_false (by omega)
         simp -implicitDefEqProofs [d1,hlt,hx,hg,hn,hw,c1,e1,c2,d2,c3,d3]
         exact .mk (m:=s.length - i1) (by omega) (go (yes (.inr ⟨by omega,by omega⟩)))
 · have d1:decide ((i:Int) < (s.length:Int))=false:=decide_eq_false (by omega)
   simp -implicitDefEqProofs [d1,hlt]
   have:=hq h' ho
   rw [g2,List.drop_eq_nil_of_le (by omega)]at this
   exact this
end
end Go.Proofs.YtlhlbamcgopiiaaGreatDoor
set_option linter.all false
set_option maxRecDepth 100000
set_option maxHeartbeats 4000000
namespace Go.Proofs.YtlhlbamcgopiiaaGreatDoor
open Go Go.RowKit Go.Proofs
section
variable {ro:Nat→Option (List AVal)}
theorem rRight_ev {h:AHeap} {x:RunV} (hl:x.text.length < 2 ^ 60) (hn:x.n < 2 ^ 32) (he:x.en < 2 ^ 32) {Q:AVal→AHeap→Prop} (hq:∀h' b,Old h h'→(b=true↔RunOk x∧plain x.text=true)→Q (.bool b) h'):Ev (cfgR ro) 159 [.agg x.cells] h Q:=by
 refine Ev.wp rfl rfl Tryz.func159 rfl ?_
 have no:∀h',Old h h'→¬(RunOk x∧plain x.text=true)→Q (.bool false) h':=fun h' o hh=>hq h' false o ⟨(fun e=>nomatch e),fun e=>absurd e hh⟩
 have yes:∀h',Old h h'→RunOk x→plain x.text=true→Q (.bool true) h':=fun h' o h1 h2=>hq h' true o ⟨fun _=>⟨h1,h2⟩,fun _=>rfl⟩
 simp -implicitDefEqProofs [Tryz.f159,RunV.cells]
 refine rlen_ev (x:=x) ?_
 obtain⟨l,hll⟩:∃l:Int,l=(x.text.length:Int) - 1:=⟨_,rfl⟩
 have w1:IntKind.i64.wrap ((x.text.length:Int) - 1)=l:=by rw [w64 (by omega) (by omega)];exact hll.symm
 by_cases c1:0≤l
 · by_cases c2:l < 1024
   · simp -implicitDefEqProofs [w1,c1,c2,same_self]
     refine plain_ev hl (fun h1 o1=>?_)
     cases hp:plain x.text with
     | false=>
      simp -implicitDefEqProofs [c1,c2,same_self]
      exact no h1 o1 (by rw [hp];simp)
     | true=>
      simp -implicitDefEqProofs [c1,c2,same_self]
      refine keyID_ev (c:=x.clock) (r:=x.r) (n:=x.n) ?_
      simp -implicitDefEqProofs [idA,same_self]
      refine idRight_ev (r:=x.r) (n:=x.n) ?_
      by_cases c3:1≤x.n∧x.n≤268435456
      · rw [decide_eq_true c3]
        simp -implicitDefEqProofs [idA,same_self]
        refine idRight_ev (r:=x.er) (n:=x.en) ?_
        by_cases c4:1≤x.en∧x.en≤268435456
        · rw [decide_eq_true c4]
          have v1:IntKind.i64.wrap (x.n:Int)=(x.n:Int):=w64 (by omega) (by omega)
          have v2:IntKind.i64.wrap (x.en:Int)=(x.en:Int):=w64 (by omega) (by omega)
          obtain⟨a,ha⟩:∃a:Int,a=(x.n:Int)+l:=⟨_,rfl⟩
          obtain⟨b,hb⟩:∃b:Int,b=(x.en:Int)+l:=⟨_,rfl⟩
          have v3:IntKind.i64.wrap ((x.n:Int)+l)=a:=by rw [w64 (by omega) (by omega)];exact ha.symm
          have v4:IntKind.i64.wrap ((x.en:Int)+l)=b:=by rw [w64 (by omega) (by omega)];exact hb.symm
          by_cases c5:a≤268435456
          · by_cases c6:b≤268435456
            · simp -implicitDefEqProofs [idA,same_self,v1,v2,v3,v4,c5,c6]
              exact yes h1 o1 ⟨by omega,by omega,c3.1,by omega,c4.1,by omega⟩ hp
            · simp -implicitDefEqProofs [idA,same_self,v1,v2,v3,v4,c5,c6]
              exact no h1 o1 (fun hh=>by have:=hh.1.e2;omega)
          · simp -implicitDefEqProofs [idA,same_self,v1,v2,v3,v4,c5]
            exact no h1 o1 (fun hh=>by have:=hh.1.n2;omega)
        · rw [decide_eq_false c4]
          simp -implicitDefEqProofs [idA,same_self]
          exact no h1 o1 (fun hh=>c4 ⟨hh.1.e1,by have:=hh.1.e2;have:=hh.1.pos;omega⟩)
      · rw [decide_eq_false c3]
        simp -implicitDefEqProofs [idA,same_self]
        exact no h1 o1 (fun hh=>c3 ⟨hh.1.n1,by have:=hh.1.n2;have:=hh.1.pos;omega⟩)
   · simp -implicitDefEqProofs [w1,c1,c2,same_self]
     exact no h (Old.refl h) (fun hh=>by have:=hh.1.len;omega)
 · simp -implicitDefEqProofs [w1,c1,same_self]
   exact no h (Old.refl h) (fun hh=>by have:=hh.1.pos;omega)
end
end Go.Proofs.YtlhlbamcgopiiaaGreatDoor
set_option linter.all false
set_option maxRecDepth 100000
set_option maxHeartbeats 4000000
namespace Go.Proofs.YtlhlbamcgopiiaaGreatDoor
open Go Go.RowKit Go.Proofs
def PL (h:AHeap) (v:AVal) (ps:List Nat):Prop:=(ps=[]∧v=.nils)∨∃o fz vs,v=.sl o 0 ps.length∧h.get o=some (.row 1 fz vs)∧vs.take ps.length=ps.map (fun p=>.ptr p 0)∧ps.length≤vs.length
def vobj:AVal→Nat→Prop
 | .sl o _ _,q=>q=o
 | _,_=>False
section
variable {ro:Nat→Option (List AVal)}
theorem ins_ev {h:AHeap} {v:AVal} {ps:List Nat} {i q p:Nat} (hv:PL h v ps) (hq:h.get q=some (.row 1 false [.ptr p 0])) (hne:¬vobj v q) (hi:i≤ps.length) (hl:ps.length < 2 ^ 40) {Q:AVal→AHeap→Prop}
 (hK:∀v' h',PL h' v' (ps.take i++p :: ps.drop i)→(∀o,o < h.next→¬vobj v o→h'.get o=h.get o)→h.next≤h'.next→(∀o,vobj v' o→h.next≤o∧o < h'.next)→Q v' h'):Ev (cfgR ro) 214 [v,.int .i64 i,.sl q 0 1] h Q:=by
 rcases hv with ⟨rfl,rfl⟩ | ⟨o,fz,vs,rfl,h1,h2,h3⟩
 · have hi0:i=0:=by simpa using hi
   subst hi0
   refine Ev.prim (v:=.sl (h.next+9) 0 1) (h':=(h.bump 9).push (.row 1 true [.ptr p 0])) rfl (by unfold insP;simp [hq]) (hK _ _ (.inr ⟨h.next+9,true,[.ptr p 0],rfl,?_,rfl,by simp⟩) (fun o ho _=>?_) (by simp;omega) (fun o ho=>?_))
   · rw [AHeap.get_push];exact if_pos rfl
   · rw [AHeap.get_push,if_neg (by simp;omega)];rfl
   · have:o=h.next+9:=ho
     subst this;simp
 · have hqo:q≠o:=fun e=>hne e
   have hlen:(ps.take i++p :: ps.drop i).length=ps.length+1:=by simp;omega
   have hrow:insRow (vs.take ps.length) i (.ptr p 0)=(ps.take i++p :: ps.drop i).map (fun p=>AVal.ptr p 0):=by
    unfold insRow;rw [h2];simp [List.map_take,List.map_drop]
   refine Ev.prim (v:=.sl (h.next+9) 0 (ps.length+1)) (h':=((h.bump 9).del o).push (.row 1 true (insRow (vs.take ps.length) i (.ptr p 0)))) rfl ?_ (hK _ _ (.inr ⟨h.next+9,true,insRow (vs.take ps.length) i (.ptr p 0),by rw [hlen],?_,?_,?_⟩) (fun o' ho' hn'=>?_) (by simp;omega) (fun o' ho'=>?_))
   · unfold insP
     have c1:¬(q=o∨(i:Int) < 0∨((ps.length:Nat):Int) < (i:Int)∨2 ^ 40≤ps.length):=by omega
     simp only [if_neg c1,h1,hq,if_pos h3,Int.toNat_natCast]
   · rw [AHeap.get_push];exact if_pos rfl
   · rw [hrow,List.take_of_length_le (by simp)]
   · rw [hrow];simp
   · rw [AHeap.get_push,if_neg (by simp;omega),AHeap.get_del];exact if_neg (fun e=>hn' e)
   · have:o'=h.next+9:=ho'
     subst this;simp
def BL (h0 h:AHeap) (o:Nat) (s:Str):Prop:=Old h0 h∧h0.next≤o∧o < h.next∧((s=[]∧h.get o=some (.bld 217 none))∨(s≠[]∧∃q,h0.next≤q∧q < h.next∧q≠o∧h.get o=some (.bld 217 (some (q,s.length)))∧h.get q=some (.buf 5 s)))
theorem write_ev {h0 h:AHeap} {o:Nat} {s x:Str} (hb:BL h0 h o s) (hl:s.length+x.length≤2 ^ 40) {Q:AVal→AHeap→Prop} (hK:∀h',BL h0 h' o (s++x)→Q (.tuple [.int .i64 x.length,.nili]) h'):Ev (cfgR ro) 130 [.ptr o 0,.str x] h Q:=by
 obtain⟨b1,b2,b3,b4⟩:=hb
 rcases b4 with ⟨rfl,hg⟩ | ⟨hs,q,q1,q2,q3,hg,hgq⟩
 · have hlx:¬2 ^ 40 < x.length:=by simp at hl;omega
   by_cases hx:x=[]
   · subst hx
     refine Ev.prim (v:=.tuple [.int .i64 ((0:Nat):Int),.nili]) (h':=(h.set o (.bld 217 none)).set o (.bld 217 none)) rfl (by show bldWrite _ _ _ _=_;unfold bldWrite;simp [hg]) (hK _ ⟨(b1.set b2 _).set b2 _,b2,b3,.inl ⟨rfl,get_set_self _ _ _⟩⟩)
   · refine Ev.prim (v:=.tuple [.int .i64 ((x.length:Nat):Int),.nili]) (h':=((h.set o (.bld 217 none)).push (.buf 5 x)).set o (.bld 217 (some (h.next,x.length)))) rfl (by show bldWrite _ _ _ _=_;unfold bldWrite;simp only [hg];rw [if_neg (by omega),if_neg hx]) (hK _ ⟨((b1.set b2 _).push _).set b2 _,b2,by simp;omega,.inr ⟨by simpa using hx,h.next,b1.1,by simp,by omega,by rw [get_set_self];rfl,?_⟩⟩)
     rw [get_set_ne (by omega),AHeap.get_push];exact if_pos rfl
 · refine Ev.prim (v:=.tuple [.int .i64 ((x.length:Nat):Int),.nili]) (h':=(((h.set o (.bld 217 (some (q,s.length)))).del q).push (.buf 5 (s++x))).set o (.bld 217 (some (h.next,s.length+x.length)))) rfl (by show bldWrite _ _ _ _=_;unfold bldWrite;simp only [hg,hgq];rw [if_neg (by omega)]) (hK _ ⟨(((b1.set b2 _).del q1).push _).set b2 _,b2,by simp;omega,.inr ⟨by simp [hs],h.next,b1.1,by simp,by omega,by rw [get_set_self,List.length_append],?_⟩⟩)
   rw [get_set_ne (by omega),AHeap.get_push];exact if_pos rfl
theorem bstr_ev {h0 h:AHeap} {o:Nat} {s:Str} (hb:BL h0 h o s) (hl:s.length≤2 ^ 40) {Q:AVal→AHeap→Prop} (hK:∀h',Old h0 h'→Q (.str s) h'):Ev (cfgR ro) 131 [.ptr o 0] h Q:=by
 obtain⟨b1,b2,b3,b4⟩:=hb
 rcases b4 with ⟨rfl,hg⟩ | ⟨hs,q,q1,q2,q3,hg,hgq⟩
 · exact Ev.prim (v:=.str []) (h':=h.del o) rfl (by show bldString _ _ _ _=_;unfold bldString;simp [hg]) (hK _ (b1.del b2))
 · have hs0:s.length≠0:=by simpa using hs
   exact Ev.prim (v:=.str s) (h':=(h.del o).del q) rfl (by show bldString _ _ _ _=_;unfold bldString;simp only [hg,hgq];rw [if_neg (by omega)]) (hK _ ((b1.del b2).del q1))
end
end Go.Proofs.YtlhlbamcgopiiaaGreatDoor
set_option linter.all false
set_option maxRecDepth 100000
set_option maxHeartbeats 4000000
namespace Go.Proofs.YtlhlbamcgopiiaaGreatDoor
open Go Go.RowKit Go.Proofs
def entA (ks:List (Nat×AVal)):List (AVal×AVal):=ks.map fun k=>(.int .u16 k.1,k.2)
def lookK:List (Nat×AVal)→Nat→Nat→Option (Nat×AVal)
 | [],_,_=>none
 | k :: ks,r,i=>if r=k.1 then some (i,k.2)else lookK ks r (i+1)
section
variable {ro:Nat→Option (List AVal)}
theorem eqU16 (h:AHeap) (a b:Int):eqIn (cfgR ro) h 10000 47 (.int .u16 a) (.int .u16 b)=.ok (a == b):=by kernel_rfl
theorem findR_ks (h:AHeap) (r:Nat):∀(ks:List (Nat×AVal)) (i:Nat),findR (cfgR ro) h 47 (.int .u16 r) (entA ks) i=.ok (lookK ks r i)
 | [],i=>rfl
 | k :: ks,i=>by
  show(eqIn (cfgR ro) h 10000 47 (.int .u16 r) (.int .u16 k.1)).bind _=_
  rw [eqU16]
  unfold lookK
  by_cases e:r=k.1
  · have:((r:Int) == (k.1:Int))=true:=by simp [e]
    rw [this,if_pos e];rfl
  · have:((r:Int) == (k.1:Int))=false:=by simp;omega
    rw [this,if_neg e]
    exact findR_ks h r ks (i+1)
def mapT:Nat:=29
def atK (ks:List (Nat×AVal)) (r:Nat):AVal:=match lookK ks r 0 with
 | some x=>x.2
 | none=>.nils
theorem look_map {h:AHeap} {q:Nat} {ks:List (Nat×AVal)} {r:Nat} (hg:h.get q=some (.map (entA ks))):lookupR (cfgR ro) h 29 (.map q) (.int .u16 r) false=.ok (atK ks r):=by
 unfold lookupR
 have hk:keyFits Tryz.prog 47 (.int .u16 r)=true:=by kernel_rfl
 simp [hg,entriesR,hk,findR_ks]
 unfold atK
 cases lookK ks r 0 with
 | none=>simp
 | some x=>rfl
theorem look_nil {h:AHeap} {r:Nat}:lookupR (cfgR ro) h 29 .nilm (.int .u16 r) false=.ok .nils:=by
 unfold lookupR
 have hk:keyFits Tryz.prog 47 (.int .u16 r)=true:=by kernel_rfl
 simp [entriesR,hk,findR]
end
def putK:List (Nat×AVal)→Nat→AVal→List (Nat×AVal)
 | [],r,v=>[(r,v)]
 | k :: ks,r,v=>if r=k.1 then(k.1,v) :: ks else k :: putK ks r v
theorem lookK_some:∀{ks:List (Nat×AVal)} {r j i:Nat} {w v:AVal},lookK ks r j=some (i,w)→∃n,i=j+n∧(entA ks)[n]?=some (.int .u16 r,w)∧setVal (entA ks) n v=entA (putK ks r v)
 | [],r,j,i,w,v,h=>by cases h
 | k :: ks,r,j,i,w,v,h=>by
  unfold lookK at h
  unfold putK
  by_cases e:r=k.1
  · rw [if_pos e]at h
    cases h
    rw [if_pos e]
    exact⟨0,rfl,by rw [e];rfl,rfl⟩
  · rw [if_neg e]at h
    rw [if_neg e]
    obtain⟨n,h1,h2,h3⟩:=lookK_some (v:=v) h
    exact⟨n+1,by omega,h2,congrArg ((AVal.int .u16 k.1,k.2) :: ·) h3⟩
theorem lookK_none:∀{ks:List (Nat×AVal)} {r j:Nat} {v:AVal},lookK ks r j=none→entA ks++[(.int .u16 r,v)]=entA (putK ks r v)
 | [],r,j,v,h=>rfl
 | k :: ks,r,j,v,h=>by
  unfold lookK at h
  unfold putK
  by_cases e:r=k.1
  · rw [if_pos e]at h;cases h
  · rw [if_neg e]at h
    rw [if_neg e]
    exact congrArg ((AVal.int .u16 k.1,k.2) :: ·) (lookK_none (v:=v) h)
section
variable {ro:Nat→Option (List AVal)}
theorem put_map {h:AHeap} {q:Nat} {ks:List (Nat×AVal)} {r:Nat} {v:AVal} (hg:h.get q=some (.map (entA ks))):mapUpdateR (cfgR ro) h 29 (.map q) (.int .u16 r) v=.ok (h.set q (.map (entA (putK ks r v)))):=by
 unfold mapUpdateR
 have hk:keyFits Tryz.prog 47 (.int .u16 r)=true:=by kernel_rfl
 simp [hg,hk,findR_ks]
 cases hl:lookK ks r 0 with
 | none=>
  simp
  rw [lookK_none hl]
 | some x=>
  obtain⟨i,w⟩:=x
  obtain⟨n,h1,h2,h3⟩:=lookK_some (v:=v) hl
  rw [Nat.zero_add]at h1
  subst h1
  have hb:AVal.beq (.int .u16 r) (.int .u16 r)=true:=AVal.beq_refl _
  simp [h2,h3,hb]
theorem at_put (ks:List (Nat×AVal)) (r r':Nat) (v:AVal):atK (putK ks r v) r'=if r'=r then v else atK ks r':=by
 have key:∀(ks:List (Nat×AVal)) (j:Nat),(lookK (putK ks r v) r' j).map (·.2)=if r'=r then some v else(lookK ks r' j).map (·.2):=by
  intro ks
  induction ks with
  | nil=>
   intro j
   show(lookK [(r,v)] r' j).map _=_
   unfold lookK
   by_cases e:r'=r
   · simp [e]
   · simp [e,lookK]
  | cons k ks ih=>
   intro j
   unfold putK
   by_cases e:r=k.1
   · rw [if_pos e]
     unfold lookK
     by_cases e2:r'=k.1
     · simp [e2,e]
     · have:¬r'=r:=by omega
       simp [e2,this]
   · rw [if_neg e]
     unfold lookK
     by_cases e2:r'=k.1
     · have:¬r'=r:=by omega
       simp [e2];intro h;exact(e h.symm).elim
     · simp only [if_neg e2]
       exact ih (j+1)
 have h:=key ks 0
 unfold atK
 cases h1:lookK (putK ks r v) r' 0 <;> cases h2:lookK ks r' 0 <;> rw [h1,h2]at h <;> by_cases e:r'=r <;> simp [e]at h ⊢ <;> first | exact h | exact h.symm | skip
end
end Go.Proofs.YtlhlbamcgopiiaaGreatDoor
set_option linter.all false
set_option maxRecDepth 100000
set_option maxHeartbeats 4000000
namespace Go.Proofs.YtlhlbamcgopiiaaGreatDoor
open Go Go.RowKit Go.Proofs
def cmpN (a b:Nat):Int:=if a < b then -1 else if b < a then 1 else 0
section
variable {ro:Nat→Option (List AVal)}
theorem nan32_ev {h:AHeap} {a:Nat} {Q:AVal→AHeap→Prop} (hq:Q (.bool false) h):Ev (cfgR ro) 209 [.int .u32 a] h Q:=by
 refine Ev.wp rfl rfl Tryz.func209 rfl ?_
 simp -implicitDefEqProofs [Tryz.f209]
 exact hq
theorem cmp32_ev {h:AHeap} {a b:Nat} {Q:AVal→AHeap→Prop} (hq:Q (.int .i64 (cmpN a b)) h):Ev (cfgR ro) 184 [.int .u32 a,.int .u32 b] h Q:=by
 refine Ev.wp rfl rfl Tryz.func184 rfl ?_
 simp -implicitDefEqProofs [Tryz.f184]
 refine nan32_ev ?_
 simp -implicitDefEqProofs
 refine nan32_ev ?_
 unfold cmpN at hq
 by_cases c1:a < b
 · rw [if_pos c1]at hq
   simp -implicitDefEqProofs [c1]
   exact hq
 · rw [if_neg c1]at hq
   by_cases c2:b < a
   · rw [if_pos c2]at hq
     simp -implicitDefEqProofs [c1,c2]
     exact hq
   · rw [if_neg c2]at hq
     simp -implicitDefEqProofs [c1,c2]
     exact hq
theorem clo_find {h:AHeap} {p t ht sz:Nat} {u l r:AVal} {x:RunV} {all:MassV} (hn:h.get p=some (nrow u l r ht sz x all)) {Q:AVal→AHeap→Prop} (hq:Q (.int .i64 (cmpN x.n t)) h):Ev (cfgR ro) 202 [.ptr p 0,.int .u32 t] h Q:=by
 refine Ev.wp rfl rfl Tryz.func202 rfl ?_
 simp -implicitDefEqProofs [Tryz.f202]
 refine item_ev hn ?_
 simp -implicitDefEqProofs [RunV.cells]
 refine cmp32_ev ?_
 simp -implicitDefEqProofs
 exact hq
theorem clo_know {h:AHeap} {p t ht sz:Nat} {u l r:AVal} {x:RunV} {all:MassV} (hn:h.get p=some (nrow u l r ht sz x all)) {Q:AVal→AHeap→Prop} (hq:Q (.int .i64 (cmpN x.n t)) h):Ev (cfgR ro) 213 [.ptr p 0,.int .u32 t] h Q:=by
 refine Ev.wp rfl rfl Tryz.func213 rfl ?_
 simp -implicitDefEqProofs [Tryz.f213]
 refine item_ev hn ?_
 simp -implicitDefEqProofs [RunV.cells]
 refine cmp32_ev ?_
 simp -implicitDefEqProofs
 exact hq
end
end Go.Proofs.YtlhlbamcgopiiaaGreatDoor
set_option linter.all false
set_option maxRecDepth 100000
set_option maxHeartbeats 4000000
namespace Go.Proofs.YtlhlbamcgopiiaaGreatDoor
open Go Go.RowKit Go.Proofs
def KeysAt (h:AHeap) (ps ks:List Nat):Prop:=ps.length=ks.length∧∀(j p k:Nat),ps[j]?=some p→ks[j]?=some k→∃u l r ht sz x all,h.get p=some (nrow u l r ht sz x all)∧x.n=k
def lowN (ks:List Nat) (t:Nat):Nat:=(ks.filter (· < t)).length
section
variable {ro:Nat→Option (List AVal)}
theorem bsearch_ev {h:AHeap} {v:AVal} {ps ks:List Nat} {t f:Nat} (hf:f=202∨f=213) (hv:PL h v ps) (hk:KeysAt h ps ks) (hl:ps.length < 2 ^ 40) {Q:AVal→AHeap→Prop}
 (hq:∀i,i≤ks.length→(∀j k,j < i→ks[j]?=some k→k < t)→(∀j k,i≤j→ks[j]?=some k→t≤k)→Q (.tuple [.int .i64 (i:Nat),.bool (decide (ks[i]?=some t))]) h) (hs:ks.Pairwise (· < ·)):
 Ev (cfgR ro) 201 [v,.int .u32 t,.func f [] []] h Q:=by
 refine Ev.wp rfl rfl Tryz.func201 rfl ?_
 obtain⟨n,hn⟩:∃n,n=ps.length:=⟨_,rfl⟩
 have hlen:lenA v=.ok n:=by
  rcases hv with ⟨rfl,rfl⟩ | ⟨o,fz,vs,rfl,h1,h2,h3⟩
  · rw [hn];rfl
  · rw [hn];rfl
 have hlenR:lenR (cfgR ro) h 270 v=.ok (.int .i64 n):=by
  rcases hv with ⟨rfl,rfl⟩ | ⟨o,fz,vs,rfl,h1,h2,h3⟩
  · rw [hn];simp [lenR,lenA]
  · rw [hn];simp [lenR,lenA]
 have hkl:n=ks.length:=by rw [hn];exact hk.1
 have hidx:∀i,i < n→∃a,indexAddrR Tryz.prog 270 v (.int .i64 (i:Nat))=.ok a∧∃p,ps[i]?=some p∧loadR (cfgR ro) h 25 a=.ok (.ptr p 0):=by
  intro i hi
  rcases hv with ⟨rfl,rfl⟩ | ⟨o,fz,vs,rfl,h1,h2,h3⟩
  · simp at hn;omega
  · have hi':i < ps.length:=by omega
    refine⟨.ptr o i,?_,ps[i],List.getElem?_eq_getElem hi',?_⟩
    · have hx:idxNat (.int .i64 (i:Int)) ps.length=.ok i:=ix_nat hi'
      simp [indexAddrR,hx]
    · have hv2:vs[i]?=some (.ptr ps[i] 0):=by
       have:=congrArg (fun l=>l[i]?) h2
       simp only [List.getElem?_take,if_pos hi',List.getElem?_map,List.getElem?_eq_getElem hi']at this
       simpa using this
      have hn2:nthR vs i=.ok (.ptr ps[i] 0):=nthR_get hv2
      simp [loadR,h1,hn2]
 simp -implicitDefEqProofs [Tryz.f201,hlenR]
 obtain⟨I,hI⟩:∃I:Nat→List AVal→AHeap→Prop,I=fun m env h'=>h'=h∧∃i j,m=j - i∧i≤j∧j≤n∧(∀a k,a < i→ks[a]?=some k→k < t)∧(∀a k,j≤a→ks[a]?=some k→t≤k)∧env=(v :: .int .u32 t :: .func f [] [] :: .dead :: .dead :: .dead :: .dead :: .dead :: .int .i64 n :: .int .i64 (i:Nat) :: .int .i64 (j:Nat) :: .dead :: .dead :: .dead :: .dead :: .dead :: .dead :: .dead :: .dead :: .dead :: .dead :: .dead :: .dead :: .dead :: .dead :: .dead :: .dead :: .dead :: .dead :: .dead :: .dead :: .dead :: .dead :: .dead :: .dead :: .dead :: .dead :: .dead :: .dead :: .dead :: .dead :: .dead :: .dead :: .dead :: .dead :: .dead :: .dead :: .dead :: .dead :: []):=⟨_,rfl⟩
 refine loop_of I ?_ n (by rw [hI];exact⟨rfl,0,n,by omega,by omega,Nat.le_refl _,fun a k ha=>by omega,fun a k ha hk'=>by have:=(List.getElem?_eq_some_iff.1 hk').1;omega,rfl⟩)
 intro m env h' hi
 rw [hI]at hi
 obtain⟨rfl,i,j,rfl,i1,i2,i3,i4,rfl⟩:=hi
 have call:∀(p k:Nat) (b:Nat) (K:AVal→AHeap→Prop),ps[b]?=some p→ks[b]?=some k→K (.int .i64 (cmpN k t)) h'→Ev (cfgR ro) f [.ptr p 0,.int .u32 t] h' K:=by
  intro p k b K e1 e2 hK
  obtain⟨u,l,r,ht,sz,x,all,e3,e4⟩:=hk.2 b p k e1 e2
  subst e4
  rcases hf with rfl | rfl
  · exact clo_find e3 hK
  · exact clo_know e3 hK
 by_cases hlt:i < j
 · have d1:decide ((i:Int) < (j:Int))=true:=decide_eq_true (by omega)
   obtain⟨b,hb⟩:∃b,b=(i+j) / 2:=⟨_,rfl⟩
   have hw:IntKind.i64.wrap (ishr .u64 (IntKind.u64.wrap (IntKind.i64.wrap ((i:Int)+(j:Int)))) 1)=(b:Int):=by
    have f1:IntKind.i64.wrap ((i:Int)+(j:Int))=(i:Int)+(j:Int):=w64 (by omega) (by omega)
    rw [f1,wrap64,Int.emod_eq_of_lt (by omega) (by omega)]
    unfold ishr
    have e1:min ((1:Int).toNat) (IntKind.u64.bits)=1:=by decide
    rw [e1,Int.fdiv_eq_ediv_of_nonneg _ (by decide)]
    rw [w64 (by omega) (by omega)];omega
   obtain⟨a,ha,p,hp,hld⟩:=hidx b (by omega)
   obtain⟨k,hkk⟩:∃k,ks[b]?=some k:=⟨ks[b]'(by omega),List.getElem?_eq_getElem _⟩
   have hw2:IntKind.i64.wrap ((b:Int)+1)=((b+1:Nat):Int):=by rw [w64 (by omega) (by omega)];omega
   simp -implicitDefEqProofs [d1,hlt,hw,ha,hld]
   refine call p k b _ hp hkk ?_
   have srt:∀(x y kx ky:Nat),x < y→ks[x]?=some kx→ks[y]?=some ky→kx < ky:=by
    intro x y kx ky hxy e1 e2
    obtain⟨l1,rfl⟩:=List.getElem?_eq_some_iff.1 e1
    obtain⟨l2,rfl⟩:=List.getElem?_eq_some_iff.1 e2
    exact List.pairwise_iff_getElem.1 hs x y l1 l2 hxy
   by_cases c:k < t
   · have e:cmpN k t=-1:=by unfold cmpN;rw [if_pos c]
     rw [e]
     simp -implicitDefEqProofs [hw2]
     exact .mk (m:=j - (b+1)) (by omega) (by rw [hI];exact⟨rfl,b+1,j,rfl,by omega,i2,fun a k' ha' e2=>by
      by_cases hab:a=b
      · subst hab;rw [hkk]at e2;cases e2;exact c
      · have:=srt a b k' k (by omega) e2 hkk;omega,i4,by simp⟩)
   · have e:¬cmpN k t < 0:=by unfold cmpN;rw [if_neg c];split <;> omega
     have e':decide (cmpN k t < 0)=false:=decide_eq_false e
     simp -implicitDefEqProofs [e,e']
     exact .mk (m:=b - i) (by omega) (by rw [hI];exact⟨rfl,i,b,rfl,by omega,by omega,i3,fun a k' ha' e2=>by
      by_cases hab:a=b
      · subst hab;rw [hkk]at e2;cases e2;omega
      · have:=srt b a k k' (by omega) hkk e2;omega,rfl⟩)
 · have d1:decide ((i:Int) < (j:Int))=false:=decide_eq_false (by omega)
   obtain rfl:i=j:=by omega
   have hq:=hq i (by omega) i3 i4
   by_cases c:i < n
   · obtain⟨a,ha,p,hp,hld⟩:=hidx i c
     obtain⟨k,hkk⟩:∃k,ks[i]?=some k:=⟨ks[i]'(by omega),List.getElem?_eq_getElem _⟩
     simp -implicitDefEqProofs [d1,hlt,c,ha,hld]
     refine call p k i _ hp hkk ?_
     have hge:=i4 i k (Nat.le_refl _) hkk
     have e:decide (cmpN k t=0)=decide (ks[i]?=some t):=by
      rw [hkk]
      apply decide_eq_decide.2
      unfold cmpN
      rw [if_neg (by omega)]
      constructor
      · intro h;split at h
        · cases h
        · congr 1;omega
      · intro h;cases h;rw [if_neg (by omega)]
     rw [←e]at hq
     simp -implicitDefEqProofs
     exact hq
   · have hnone:ks[i]?=none:=List.getElem?_eq_none (by omega)
     rw [hnone]at hq
     simp -implicitDefEqProofs [d1,hlt,c]
     simpa using hq
end
end Go.Proofs.YtlhlbamcgopiiaaGreatDoor
set_option linter.all false
set_option maxRecDepth 100000
set_option maxHeartbeats 4000000
namespace Go.Proofs.YtlhlbamcgopiiaaGreatDoor
open Go Go.RowKit Go.Proofs
structure AtV where
 clock:Nat
 r:Nat
 n:Nat
 er:Nat
 en:Nat
 b:UInt8
 shown:Bool
def atF (c r:Nat) (sh:Bool):Nat→Nat→Nat→Str→List AtV
 | _,_,_,[]=>[]
 | n,er,en,b :: s=>⟨c,r,n,er,en,b,sh⟩ :: atF c r sh (n+1) er (en+1) s
def atomsOf (x:RunV):List AtV:=atF x.clock x.r x.shown x.n x.er x.en x.text
def flat (L:List RunV):List AtV:=(L.map atomsOf).flatten
theorem atF_len (c r:Nat) (sh:Bool):∀(s:Str) (n er en:Nat),(atF c r sh n er en s).length=s.length
 | [],_,_,_=>rfl
 | b :: s,n,er,en=>by simp [atF,atF_len c r sh s]
theorem atF_get (c r:Nat) (sh:Bool):∀(s:Str) (n er en i:Nat),(atF c r sh n er en s)[i]?=s[i]?.map fun b=>⟨c,r,n+i,er,en+i,b,sh⟩
 | [],_,_,_,i=>by simp [atF]
 | b :: s,n,er,en,0=>by simp [atF]
 | b :: s,n,er,en,i+1=>by
  simp only [atF,List.getElem?_cons_succ]
  rw [atF_get c r sh s]
  rw [show n+1+i=n+(i+1) by omega,show en+1+i=en+(i+1) by omega]
theorem atF_append (c r:Nat) (sh:Bool):∀(s t:Str) (n er en:Nat),atF c r sh n er en (s++t)=atF c r sh n er en s++atF c r sh (n+s.length) er (en+s.length) t
 | [],t,n,er,en=>by simp [atF]
 | b :: s,t,n,er,en=>by
  simp only [atF,List.cons_append,atF_append c r sh s,List.length_cons]
  rw [show n+1+s.length=n+(s.length+1) by omega,show en+1+s.length=en+(s.length+1) by omega]
theorem atomsOf_len (x:RunV):(atomsOf x).length=x.text.length:=atF_len _ _ _ _ _ _ _
theorem atomsOf_get (x:RunV) (i:Nat):(atomsOf x)[i]?=x.text[i]?.map fun b=>⟨x.clock,x.r,x.n+i,x.er,x.en+i,b,x.shown⟩:=atF_get _ _ _ _ _ _ _ _
@[simp] theorem flat_nil:flat []=[]:=rfl
@[simp] theorem flat_cons (x:RunV) (L:List RunV):flat (x :: L)=atomsOf x++flat L:=by simp [flat]
theorem flat_append (A B:List RunV):flat (A++B)=flat A++flat B:=by simp [flat]
theorem flatten_length (L:List RunV):(flat L).length=atomsN L:=by
 induction L with
 | nil=>rfl
 | cons x L ih=>rw [flat_cons,List.length_append,atomsOf_len,ih];simp [atomsN]
theorem cut_atoms (x:RunV) (k:Nat) (hk:k≤x.text.length):atomsOf (x.fst k)++atomsOf (x.snd k)=atomsOf x:=by
 have h:=atF_append x.clock x.r x.shown (x.text.take k) (x.text.drop k) x.n x.er x.en
 rw [List.take_append_drop,List.length_take,Nat.min_eq_left hk]at h
 exact h.symm
theorem fst_atoms (x:RunV) (k:Nat) (hk:k≤x.text.length):atomsOf (x.fst k)=(atomsOf x).take k:=by
 rw [←cut_atoms x k hk,List.take_append_of_le_length (by rw [atomsOf_len];simp [RunV.fst];omega),List.take_of_length_le (by rw [atomsOf_len];simp [RunV.fst];omega)]
theorem snd_atoms (x:RunV) (k:Nat) (hk:k≤x.text.length):atomsOf (x.snd k)=(atomsOf x).drop k:=by
 have h:(atomsOf (x.fst k)).length=k:=by rw [atomsOf_len];simp [RunV.fst];omega
 rw [←cut_atoms x k hk,List.drop_append,List.drop_of_length_le (by omega),h,Nat.sub_self];rfl
theorem join_atoms {x y:RunV} (h:x.joins y):atomsOf (x.join y)=atomsOf x++atomsOf y:=by
 obtain⟨⟨h1,h2,h3⟩,⟨h4,h5⟩,h6,_⟩:=h
 unfold atomsOf RunV.join
 rw [atF_append,h3,h5,h1,h2,h4,h6]
def atIx (l:List AtV) (r n:Nat):Option Nat:=l.findIdx? fun a=>decide (a.r=r∧a.n=n)
theorem mem_atomsOf {x:RunV} {a:AtV} (h:a∈atomsOf x):x.has a.r a.n:=by
 obtain⟨i,hi⟩:=List.mem_iff_getElem?.1 h
 rw [atomsOf_get]at hi
 cases hx:x.text[i]? with
 | none=>rw [hx]at hi;cases hi
 | some b=>
  rw [hx]at hi
  simp at hi
  have:=(List.getElem?_eq_some_iff.1 hx).1
  subst hi
  exact⟨rfl,by simp,by simp;omega⟩
theorem has_atom {x:RunV} {r n:Nat} (h:x.has r n):∃a,(atomsOf x)[n - x.n]?=some a∧a.r=r∧a.n=n:=by
 obtain⟨h1,h2,h3⟩:=h
 have hl:n - x.n < x.text.length:=by omega
 refine⟨_,by rw [atomsOf_get,List.getElem?_eq_getElem hl];rfl,h1.symm,by simp;omega⟩
theorem atIx_none {L:List RunV} {r n:Nat}:atIx (flat L) r n=none↔∀x∈L,¬x.has r n:=by
 unfold atIx
 rw [List.findIdx?_eq_none_iff]
 constructor
 · intro h x hx hh
   obtain⟨a,h1,h2,h3⟩:=has_atom hh
   have:=h a (List.mem_flatten.2 ⟨atomsOf x,List.mem_map.2 ⟨x,hx,rfl⟩,List.mem_of_getElem? h1⟩)
   simp [h2,h3]at this
 · intro h a ha
   obtain⟨l,hl,ha⟩:=List.mem_flatten.1 ha
   obtain⟨x,hx,rfl⟩:=List.mem_map.1 hl
   have h1:=mem_atomsOf ha
   have h2:=h x hx
   simp only [decide_eq_false_iff_not]
   rintro⟨rfl,rfl⟩
   exact h2 h1
theorem atF_idx (c r:Nat) (sh:Bool):∀(s:Str) (n er en r' n':Nat),(atF c r sh n er en s).findIdx? (fun a=>decide (a.r=r'∧a.n=n'))=if r'=r∧n≤n'∧n' < n+s.length then some (n' - n)else none
 | [],n,er,en,r',n'=>by simp only [atF,List.findIdx?_nil,List.length_nil];rw [if_neg (by omega)]
 | b :: s,n,er,en,r',n'=>by
  simp only [atF,List.findIdx?_cons]
  by_cases e:r=r'∧n=n'
  · obtain⟨rfl,rfl⟩:=e
    simp
  · rw [decide_eq_false e]
    simp only [Bool.false_eq_true,if_false]
    rw [atF_idx c r sh s]
    by_cases e2:r'=r∧n+1≤n'∧n' < n+1+s.length
    · rw [if_pos e2,if_pos (by simp only [List.length_cons];omega)];simp;omega
    · rw [if_neg e2,if_neg (by simp only [List.length_cons];omega)];rfl
theorem atIx_run (x:RunV) (r n:Nat):atIx (atomsOf x) r n=if x.has r n then some (n - x.n)else none:=atF_idx _ _ _ _ _ _ _ _ _
theorem atIx_append (A B:List AtV) (r n:Nat):atIx (A++B) r n=match atIx A r n with
 | some i=>some i
 | none=>(atIx B r n).map (· +A.length):=by
 unfold atIx
 rw [List.findIdx?_append]
 cases List.findIdx? (fun a=>decide (a.r=r∧a.n=n)) A <;> simp
theorem atIx_at {L1 L2:List RunV} {x:RunV} {r n:Nat} (hx:x.has r n) (h1:∀y∈L1,¬y.has r n):atIx (flat (L1++x :: L2)) r n=some (atomsN L1+(n - x.n)):=by
 rw [flat_append,flat_cons,atIx_append,atIx_none.2 h1,atIx_append,atIx_run,if_pos hx,flatten_length]
 simp;omega
def RunV.flw (x y:RunV):Prop:=(x.clock=y.clock∧x.r=y.r∧x.n+x.text.length=y.n)∧(x.er=y.er∧x.en+x.text.length=y.en)∧x.shown=y.shown
theorem joins_flw {x y:RunV}:x.joins y↔x.flw y∧x.text.length+y.text.length≤1024:=by unfold RunV.joins RunV.flw;constructor <;> (intro h;simp [h])
instance (x y:RunV):Decidable (x.flw y):=by unfold RunV.flw;infer_instance
def NJ:List RunV→Prop
 | x :: y :: l=>¬x.flw y∧NJ (y :: l)
 | _=>True
theorem NJ_mid:∀(A:List RunV) (x y:RunV) (B:List RunV),NJ (A++x :: y :: B)↔NJ (A++[x])∧¬x.flw y∧NJ (y :: B)
 | [],x,y,B=>by simp [NJ]
 | [a],x,y,B=>by simp [NJ]
 | a :: b :: A,x,y,B=>by
  have:=NJ_mid (b :: A) x y B
  simp only [List.cons_append,NJ]at this ⊢
  rw [this,and_assoc]
theorem NJ_left:∀(A B:List RunV),NJ (A++B)→NJ A
 | [],B,_=>trivial
 | [a],B,_=>trivial
 | a :: b :: A,B,h=>⟨h.1,NJ_left (b :: A) B h.2⟩
theorem NJ_right:∀(A B:List RunV),NJ (A++B)→NJ B
 | [],B,h=>h
 | [a],[],h=>trivial
 | [a],b :: B,h=>h.2
 | a :: b :: A,B,h=>NJ_right (b :: A) B h.2
def AtV.fol (a b:AtV):Prop:=a.clock=b.clock∧a.r=b.r∧a.n+1=b.n∧a.er=b.er∧a.en+1=b.en∧a.shown=b.shown
instance (a b:AtV):Decidable (a.fol b):=by unfold AtV.fol;infer_instance
def needP:Option AtV→List AtV→Nat
 | _,[]=>0
 | none,b :: l=>1+needP (some b) l
 | some a,b :: l=>(if a.fol b then 0 else 1)+needP (some b) l
def need (l:List AtV):Nat:=needP none l
def RunV.last (x:RunV):AtV:=⟨x.clock,x.r,x.n+(x.text.length - 1),x.er,x.en+(x.text.length - 1),x.text.getLastD 0,x.shown⟩
def shownA (l:List AtV):Str:=(l.filter (·.shown)).map (·.b)
theorem shownA_append (A B:List AtV):shownA (A++B)=shownA A++shownA B:=by simp [shownA]
theorem shownA_run (c r:Nat) (sh:Bool):∀(s:Str) (n er en:Nat),shownA (atF c r sh n er en s)=if sh then s else []
 | [],_,_,_=>by simp [atF,shownA]
 | b :: s,n,er,en=>by
  have:=shownA_run c r sh s (n+1) er (en+1)
  unfold shownA at this ⊢
  cases sh <;> simp [atF]at this ⊢ <;> exact this
theorem shownA_flat (L:List RunV):shownA (flat L)=shownTx L:=by
 induction L with
 | nil=>rfl
 | cons x L ih=>
  rw [flat_cons,shownA_append,ih]
  have:shownTx (x :: L)=(if x.shown then x.text else [])++shownTx L:=by simp [shownTx]
  rw [this];congr 1;exact shownA_run _ _ _ _ _ _ _
def RunV.ini (x:RunV):Nat×Nat×Nat×Nat×Nat×Bool:=(x.clock,x.r,x.n,x.er,x.en,x.shown)
def RunV.fin_ (x:RunV):Nat×Nat×Nat×Nat×Nat×Bool:=(x.clock,x.r,x.n+x.text.length,x.er,x.en+x.text.length,x.shown)
theorem flw_iff (x y:RunV):x.flw y↔x.fin_=y.ini:=by
 unfold RunV.flw RunV.fin_ RunV.ini
 simp only [Prod.mk.injEq]
 constructor
 · rintro⟨⟨h1,h2,h3⟩,⟨h4,h5⟩,h6⟩;exact⟨h1,h2,h3,h4,h5,h6⟩
 · rintro⟨h1,h2,h3,h4,h5,h6⟩;exact⟨⟨h1,h2,h3⟩,⟨h4,h5⟩,h6⟩
theorem join_fin {x y:RunV} (h:x.joins y):(x.join y).fin_=y.fin_:=by
 obtain⟨⟨h1,h2,h3⟩,⟨h4,h5⟩,h6,_⟩:=h
 unfold RunV.fin_ RunV.join
 simp only [Prod.mk.injEq,List.length_append]
 exact⟨h1,h2,by omega,h4,by omega,h6⟩
theorem snd_fin (x:RunV) {k:Nat} (hk:k≤x.text.length):(x.snd k).fin_=x.fin_:=by
 unfold RunV.fin_ RunV.snd
 simp only [Prod.mk.injEq,List.length_drop,true_and]
 exact⟨by omega,by omega,trivial⟩
theorem NJ_fin {x y:RunV} (h:x.fin_=y.fin_) {L:List RunV}:NJ (x :: L)→NJ (y :: L):=by
 cases L with
 | nil=>exact fun _=>trivial
 | cons z L=>intro hn;refine⟨fun hf=>hn.1 ?_,hn.2⟩;rw [flw_iff]at hf ⊢;rw [h];exact hf
theorem NJ_ini {x y:RunV} (h:x.ini=y.ini):∀{A:List RunV},NJ (A++[x])→NJ (A++[y])
 | [],_=>trivial
 | [a],hn=>by
  refine⟨fun hf=>hn.1 ?_,trivial⟩
  rw [flw_iff]at hf ⊢;rw [h];exact hf
 | a :: b :: A,hn=>⟨hn.1,NJ_ini h (A:=b :: A) hn.2⟩
theorem NJ_tail {x:RunV} {L:List RunV} (h:NJ (x :: L)):NJ L:=NJ_right [x] L h
theorem NJ_glue {A:List RunV} {x:RunV} {B:List RunV} (h1:NJ (A++[x])) (h2:NJ (x :: B)):NJ (A++x :: B):=by
 cases B with
 | nil=>exact h1
 | cons y B=>exact(NJ_mid A x y B).2 ⟨h1,h2.1,h2.2⟩
theorem NJ_split {A:List RunV} {x:RunV} {B:List RunV} (h:NJ (A++x :: B)):NJ (A++[x])∧NJ (x :: B):=by
 refine⟨NJ_left _ B (by rw [List.append_assoc];exact h),NJ_right A _ h⟩
def jn (a:Nat) (x:RunV):List (Nat×RunV)→List (Nat×RunV)
 | []=>[(a,x)]
 | p :: L=>if x.joins p.2 then(a,x.join p.2) :: L else(a,x) :: p :: L
theorem jn_yes {a:Nat} {x:RunV} {p:Nat×RunV} {L:List (Nat×RunV)} (h:x.joins p.2):jn a x (p :: L)=(a,x.join p.2) :: L:=by simp [jn,h]
theorem jn_no {a:Nat} {x:RunV} {p:Nat×RunV} {L:List (Nat×RunV)} (h:¬x.joins p.2):jn a x (p :: L)=(a,x) :: p :: L:=by simp [jn,h]
theorem jn_head (a:Nat) (x:RunV) (L:List (Nat×RunV)):∃x' L',jn a x L=(a,x') :: L'∧x'.ini=x.ini∧flat (x' :: L'.map (·.2))=flat (x :: L.map (·.2))∧(∀p∈L',p∈L)∧L'.Sublist L∧
 ((∀p∈(a,x) :: L,RunOk p.2)→RunOk x'):=by
 cases L with
 | nil=>exact⟨x,[],rfl,rfl,rfl,fun _ h=>h,List.Sublist.refl _,fun h=>h (a,x) (by simp)⟩
 | cons p L=>
  by_cases hj:x.joins p.2
  · rw [jn_yes hj]
    refine⟨x.join p.2,L,rfl,rfl,?_,fun q hq=>by simp [hq],List.sublist_cons_self _ _,fun h=>?_⟩
    · simp [join_atoms hj]
    · obtain⟨a1,a2,a3,a4,a5,a6⟩:=h (a,x) (by simp)
      obtain⟨b1,b2,b3,b4,b5,b6⟩:=h p (by simp)
      obtain⟨⟨h1,h2,h3⟩,⟨h4,h5⟩,h6,h7⟩:=hj
      have hl:(x.join p.2).text.length=x.text.length+p.2.text.length:=by simp [RunV.join]
      refine⟨by simp only []at a1;omega,by omega,a3,?_,a5,?_⟩
      · show x.n+_≤_;simp only []at a4 a1;omega
      · show x.en+_≤_;simp only []at a4 a1;omega
  · rw [jn_no hj]
    exact⟨x,p :: L,rfl,rfl,rfl,fun _ h=>h,List.Sublist.refl _,fun h=>h (a,x) (by simp)⟩
theorem jn_NJ {a:Nat} {x:RunV} {L:List (Nat×RunV)} (hb:atomsN (x :: L.map (·.2))≤1024) (hn:NJ (L.map (·.2))):NJ ((jn a x L).map (·.2)):=by
 cases L with
 | nil=>exact trivial
 | cons p L=>
  by_cases hj:x.joins p.2
  · rw [jn_yes hj]
    exact NJ_fin (join_fin hj).symm hn
  · rw [jn_no hj]
    refine⟨fun hf=>hj (joins_flw.2 ⟨hf,?_⟩),hn⟩
    simp [atomsN]at hb
    omega
theorem atomsN_flat {A B:List RunV} (h:flat A=flat B):atomsN A=atomsN B:=by rw [←flatten_length,←flatten_length,h]
end Go.Proofs.YtlhlbamcgopiiaaGreatDoor
set_option linter.all false
set_option maxRecDepth 100000
set_option maxHeartbeats 4000000
namespace Go.Proofs.YtlhlbamcgopiiaaGreatDoor
open Go Go.RowKit Go.Proofs
variable {zT:List AVal}
theorem At.item {h:AHeap}:∀{t:Rt RunV} {up:AVal} {p:Nat} {x:RunV},At TS h up t→(p,x)∈t.items→∃u l r ht sz all,h.get p=some (nrow u l r ht sz x all)
 | .nil,_,_,_,_,hm=>by cases hm
 | .node o ht y l r,up,p,x,ha,hm=>by
  obtain⟨⟨m,_,h1⟩,h2,h3⟩:=at_node.1 ha
  rw [items_node]at hm
  rcases List.mem_append.1 hm with hm | hm
  · exact At.item h2 hm
  · rcases List.mem_cons.1 hm with hm | hm
    · cases hm;exact⟨_,_,_,_,_,_,h1⟩
    · exact At.item h3 hm
structure IX (h:AHeap) (m:AVal) (M:Nat×RunV→Prop) (ix:Nat→List (Nat×RunV)):Prop where
 mem:∀r p,p∈ix r↔M p∧p.2.r=r
 ord:∀r,((ix r).map (·.2.n)).Pairwise (· < ·)
 obj:(m=.nilm∧∀r,ix r=[])∨∃q ks,m=.map q∧q < h.next∧h.get q=some (.map (entA ks))∧(∀r,PL h (atK ks r) ((ix r).map (·.1)))∧(∀r o,vobj (atK ks r) o→o < h.next∧o≠q)∧∀r r' o,vobj (atK ks r) o→vobj (atK ks r') o→r=r'
def IObj (m:AVal) (h:AHeap) (o:Nat):Prop:=∃q,m=.map q∧(o=q∨∃ks r,h.get q=some (.map (entA ks))∧vobj (atK ks r) o)
structure Sx (zT:List AVal) (h:AHeap) (s:Nat) (m:AVal) (t:Rt RunV) (M:Nat×RunV→Prop) (ix:Nat→List (Nat×RunV)):Prop where
 rp:Rp ([],m :: zT) h s t
 ix:IX h m M ix
 sub:∀p,M p→p∈t.items
 sep:∀o,IObj m h o→o≠s∧o ∉ t.ids
def RunV.apart (x y:RunV):Prop:=x.r=y.r→x.n+x.text.length≤y.n∨y.n+y.text.length≤x.n
structure Rok (L:List (Nat×RunV)):Prop where
 ok:∀p∈L,RunOk p.2
 apart:L.Pairwise fun p q=>p.2.apart q.2
theorem incr_len {B:Nat}:∀{ks:List Nat} {a:Nat},ks.Pairwise (· < ·)→(∀k∈ks,a≤k∧k < B)→ks.length≤B - a
 | [],a,_,_=>by simp
 | k :: ks,a,h,hb=>by
  rw [List.pairwise_cons]at h
  have h1:=hb k (by simp)
  have:=incr_len (a:=k+1) h.2 (fun k' hk'=>⟨h.1 k' hk',(hb k' (by simp [hk'])).2⟩)
  simp only [List.length_cons];omega
theorem apart_has {x y:RunV} {r n:Nat} (h:x.apart y) (hx:x.has r n) (hy:y.has r n):False:=by
 obtain⟨rfl,a1,a2⟩:=hx
 obtain⟨b0,b1,b2⟩:=hy
 have:=h b0
 omega
theorem apart_symm {x y:RunV} (h:x.apart y):y.apart x:=fun e=>(h e.symm).symm
theorem Rok.uniq {L:List (Nat×RunV)} (R:Rok L) {p q:Nat×RunV} (hp:p∈L) (hq:q∈L) (h:p≠q):p.2.apart q.2:=by
 have:=R.apart
 induction L with
 | nil=>cases hp
 | cons a L ih=>
  rw [List.pairwise_cons]at this
  rcases List.mem_cons.1 hp with h1 | h1
  · rcases List.mem_cons.1 hq with h2 | h2
    · exact(h (h1.trans h2.symm)).elim
    · rw [h1];exact this.1 q h2
  · rcases List.mem_cons.1 hq with h2 | h2
    · rw [h2];exact apart_symm (this.1 p h1)
    · exact ih ⟨fun p hp=>R.ok p (by simp [hp]),this.2⟩ h1 h2 this.2
section
variable {ro:Nat→Option (List AVal)}
theorem IX.keys {h:AHeap} {s:Nat} {m:AVal} {t:Rt RunV} {M:Nat×RunV→Prop} {ix:Nat→List (Nat×RunV)} (S:Sx zT h s m t M ix) (r:Nat):KeysAt h ((ix r).map (·.1)) ((ix r).map (·.2.n)):=by
 refine⟨by simp,fun j p k h1 h2=>?_⟩
 rw [List.getElem?_map]at h1 h2
 cases hx:(ix r)[j]? with
 | none=>rw [hx]at h1;cases h1
 | some x=>
  rw [hx]at h1 h2
  cases h1;cases h2
  have hM:=((S.ix.mem r x).1 (List.mem_of_getElem? hx)).1
  obtain⟨u,l,r',ht,sz,all,e⟩:=At.item (p:=x.1) (x:=x.2) S.rp.tree (S.sub x hM)
  exact⟨u,l,r',ht,sz,x.2,all,e,rfl⟩
theorem IX.len {h:AHeap} {s:Nat} {m:AVal} {t:Rt RunV} {M:Nat×RunV→Prop} {ix:Nat→List (Nat×RunV)} (S:Sx zT h s m t M ix) (R:∀p,M p→RunOk p.2) (r:Nat):(ix r).length < 2 ^ 30:=by
 have:=incr_len (B:=2 ^ 28+2) (a:=0) (S.ix.ord r) (fun k hk=>by
  obtain⟨p,hp,rfl⟩:=List.mem_map.1 hk
  have:=(R p ((S.ix.mem r p).1 hp).1).n2
  omega)
 simp only [List.length_map]at this
 omega
theorem IX.look {h:AHeap} {s:Nat} {m:AVal} {t:Rt RunV} {M:Nat×RunV→Prop} {ix:Nat→List (Nat×RunV)} (S:Sx zT h s m t M ix) (r:Nat):∃v,PL h v ((ix r).map (·.1))∧lookupR (cfgR ro) h 29 m (.int .u16 r) false=.ok v∧(∀o,vobj v o→IObj m h o):=by
 rcases S.ix.obj with ⟨rfl,h1⟩ | ⟨q,ks,rfl,h1,h2,h3,h4,h5⟩
 · exact⟨.nils,.inl ⟨by rw [h1];rfl,rfl⟩,look_nil,fun o ho=>ho.elim⟩
 · exact⟨atK ks r,h3 r,look_map h2,fun o ho=>⟨q,rfl,.inr ⟨ks,r,h2,ho⟩⟩⟩
theorem PL.idx {h:AHeap} {v:AVal} {ps:List Nat} (hv:PL h v ps) {i:Nat} (hi:i < ps.length):∃a,indexAddrR Tryz.prog 270 v (.int .i64 (i:Nat))=.ok a∧loadR (cfgR ro) h 25 a=.ok (.ptr (ps[i]) 0):=by
 rcases hv with ⟨rfl,rfl⟩ | ⟨o,fz,vs,rfl,h1,h2,h3⟩
 · simp at hi
 · refine⟨.ptr o i,?_,?_⟩
   · have hx:idxNat (.int .i64 (i:Int)) ps.length=.ok i:=ix_nat hi
     simp [indexAddrR,hx]
   · have hv2:vs[i]?=some (.ptr ps[i] 0):=by
      have:=congrArg (fun l=>l[i]?) h2
      simp only [List.getElem?_take,if_pos hi,List.getElem?_map,List.getElem?_eq_getElem hi]at this
      simpa using this
     have hn2:nthR vs i=.ok (.ptr ps[i] 0):=nthR_get hv2
     simp [loadR,h1,hn2]
theorem find_ev {h:AHeap} {s ar an:Nat} {m:AVal} {t:Rt RunV} {M:Nat×RunV→Prop} {ix:Nat→List (Nat×RunV)} (S:Sx zT h s m t M ix) (R:Rok t.items) (ha:an < 2 ^ 32) {Q:AVal→AHeap→Prop}
 (hq1:∀i p,(ix ar)[i]?=some p→p.2.has ar an→Q (.tuple [.int .i64 (i:Nat),.bool true]) h)
 (hq2:∀i:Nat,(∀p,M p→¬p.2.has ar an)→(∀p,(ix ar)[i]?=some p→i=0∨p.2.n≤an)→(∀j p,i < j→(ix ar)[j]?=some p→an < p.2.n)→(i=0∨i < (ix ar).length)→Q (.tuple [.int .i64 (i:Nat),.bool false]) h):Ev (cfgR ro) 179 [.ptr s 0,idA ar an] h Q:=by
 refine Ev.wp rfl rfl Tryz.func179 rfl ?_
 obtain⟨s0,hr⟩:=S.rp.root
 rw [rrow]at hr
 simp only [List.nil_append]at hr
 obtain⟨v,hv,hlk,_⟩:=IX.look (ro:=ro) S ar
 have hlen:=IX.len S (fun p hp=>R.ok p (S.sub p hp)) ar
 simp -implicitDefEqProofs [Tryz.f179,hr,idA,hlk]
 refine bsearch_ev (.inl rfl) hv (IX.keys S ar) (by simp;omega) (fun i hi hlo hhi=>?_) (S.ix.ord ar)
 have hks:∀j:Nat,((ix ar).map (·.2.n))[j]?=(ix ar)[j]?.map (·.2.n):=fun j=>List.getElem?_map
 rw [List.length_map]at hi
 have none_:∀k:Nat,(∀p,(ix ar)[k]?=some p→¬p.2.has ar an)→(∀j p,k < j→(ix ar)[j]?=some p→an < p.2.n)→(∀j p,j < k→(ix ar)[j]?=some p→∃q,(ix ar)[k]?=some q∧q.2.n≤an)→∀p,M p→¬p.2.has ar an:=by
  intro k h1 h2 h3 p hp hh
  have hm:p∈ix ar:=(S.ix.mem ar p).2 ⟨hp,hh.1.symm⟩
  obtain⟨j,hj⟩:=List.mem_iff_getElem?.1 hm
  rcases Nat.lt_trichotomy j k with c | c | c
  · obtain⟨q,e1,e2⟩:=h3 j p c hj
    have hqM:=((S.ix.mem ar q).1 (List.mem_of_getElem? e1))
    have hlt:p.2.n < q.2.n:=by
     have:=S.ix.ord ar
     obtain⟨l1,e3⟩:=List.getElem?_eq_some_iff.1 hj
     obtain⟨l2,e4⟩:=List.getElem?_eq_some_iff.1 e1
     have:=List.pairwise_iff_getElem.1 this j k (by simpa using l1) (by simpa using l2) c
     simpa [e3,e4] using this
    have hap:=R.uniq (S.sub p hp) (S.sub q hqM.1) (fun e=>by rw [e]at hlt;omega) (by rw [hqM.2];exact hh.1.symm)
    obtain⟨_,b1,b2⟩:=hh
    have:=(R.ok _ (S.sub q hqM.1)).pos
    omega
  · subst c;exact h1 p hj hh
  · have:=h2 j p c hj
    obtain⟨_,b1,b2⟩:=hh
    omega
 have fin:∀(k:Nat) (p:Nat×RunV),(ix ar)[k]?=some p→(p.2.n≤an∨k=0)→(∀j p,k < j→(ix ar)[j]?=some p→an < p.2.n)→∀K:AVal→AHeap→Prop,(∀n:Int,∀b,Q (.tuple [.int .i64 (k:Nat),.bool b]) h→K (.tuple [.int .i64 n,.bool b]) h)→Ev (cfgR ro) 185 [.agg p.2.cells,.agg [.int .u16 ar,.int .u32 an]] h K:=by
  intro k p hk hle hgt K hK
  have hM:=((S.ix.mem ar p).1 (List.mem_of_getElem? hk)).1
  refine rHas_ev (R.ok _ (S.sub p hM)) ha (fun hh=>hK _ _ (hq1 k p hk hh)) (fun hh=>hK _ _ (hq2 k ?_ (fun p' hp'=>?_) hgt (.inr (List.getElem?_eq_some_iff.1 hk).1)))
  · refine none_ k (fun p' hp'=>by rw [hk]at hp';cases hp';exact hh) hgt (fun j p' hj hp'=>⟨p,hk,?_⟩)
    rcases hle with e | e
    · exact e
    · omega
  · rw [hk]at hp';cases hp';exact hle.symm
 have ent:∀k:Nat,k < (ix ar).length→∃a,indexAddrR Tryz.prog 270 v (.int .i64 (k:Nat))=.ok a∧∃p,(ix ar)[k]?=some p∧loadR (cfgR ro) h 25 a=.ok (.ptr p.1 0)∧∃u l r ht sz all,h.get p.1=some (nrow u l r ht sz p.2 all):=by
  intro k hk
  obtain⟨a,e1,e2⟩:=PL.idx (ro:=ro) hv (i:=k) (by simpa using hk)
  have hg:(ix ar)[k]?=some (ix ar)[k]:=List.getElem?_eq_getElem hk
  refine⟨a,e1,_,hg,by simpa using e2,?_⟩
  exact At.item (p:=(ix ar)[k].1) (x:=(ix ar)[k].2) S.rp.tree (S.sub _ ((S.ix.mem ar _).1 (List.mem_of_getElem? hg)).1)
 have ltk:∀(j:Nat) (p:Nat×RunV),(ix ar)[j]?=some p→j < i→p.2.n < an:=fun j p hj hlt=>hlo j p.2.n hlt (by rw [hks,hj];rfl)
 have gek:∀(j:Nat) (p:Nat×RunV),(ix ar)[j]?=some p→i≤j→an≤p.2.n:=fun j p hj hle=>hhi j p.2.n hle (by rw [hks,hj];rfl)
 by_cases c:((ix ar).map (·.2.n))[i]?=some an
 · rw [decide_eq_true c]
   rw [hks]at c
   have hi2:i < (ix ar).length:=by
    cases hx:(ix ar)[i]? with
    | none=>rw [hx]at c;cases c
    | some p=>exact(List.getElem?_eq_some_iff.1 hx).1
   obtain⟨a,e1,p,e2,e3,u,l,r,ht,sz,all,e4⟩:=ent i hi2
   have hpn:p.2.n=an:=by rw [e2]at c;simpa using c
   have hd:decide ((i:Int) < 0)=false:=decide_eq_false (by omega)
   simp -implicitDefEqProofs [hd,e1,e3]
   refine item_ev e4 ?_
   simp -implicitDefEqProofs [hd,e1,e3]
   refine fin i p e2 (.inl (by omega)) (fun j p' hj hp'=>?_) _ (fun n b hQ=>?_)
   · have h1:=gek j p' hp' (by omega)
     have h2:p.2.n < p'.2.n:=by
      obtain⟨l1,e5⟩:=List.getElem?_eq_some_iff.1 e2
      obtain⟨l2,e6⟩:=List.getElem?_eq_some_iff.1 hp'
      have:=List.pairwise_iff_getElem.1 (S.ix.ord ar) i j (by simpa using l1) (by simpa using l2) hj
      simpa [e5,e6] using this
     omega
   · simp -implicitDefEqProofs [e3,same_self]
     exact hQ
 · rw [decide_eq_false c]
   by_cases h0:i=0
   · subst h0
     have w1:IntKind.i64.wrap (-1)=-1:=by decide
     simp -implicitDefEqProofs [w1]
     refine hq2 0 (fun p hp hh=>?_) (fun p hp=>.inl rfl) (fun j p hj hp=>?_) (.inl rfl)
     · have hm:p∈ix ar:=(S.ix.mem ar p).2 ⟨hp,hh.1.symm⟩
       obtain⟨j,hj⟩:=List.mem_iff_getElem?.1 hm
       have h1:=gek j p hj (Nat.zero_le _)
       by_cases e:j=0
       · subst e
         rw [hks,hj]at c
         have:p.2.n≠an:=fun e=>c (by simp [e])
         have:=hh.2.1
         omega
       · have h2:=S.ix.ord ar
         have:=hh.2.1
         have hz:0 < (ix ar).length:=by have:=(List.getElem?_eq_some_iff.1 hj).1;omega
         have e0:(ix ar)[0]?=some (ix ar)[0]:=List.getElem?_eq_getElem hz
         have g0:=gek 0 _ e0 (Nat.le_refl _)
         obtain⟨l1,e5⟩:=List.getElem?_eq_some_iff.1 hj
         have:=List.pairwise_iff_getElem.1 h2 0 j (by simpa using hz) (by simpa using l1) (by omega)
         simp [e5]at this
         omega
     · have h1:=gek j p hp (Nat.zero_le _)
       have hz:0 < (ix ar).length:=by have:=(List.getElem?_eq_some_iff.1 hp).1;omega
       have e0:(ix ar)[0]?=some (ix ar)[0]:=List.getElem?_eq_getElem hz
       have g0:=gek 0 _ e0 (Nat.le_refl _)
       obtain⟨l1,e5⟩:=List.getElem?_eq_some_iff.1 hp
       have:=List.pairwise_iff_getElem.1 (S.ix.ord ar) 0 j (by simpa using hz) (by simpa using l1) hj
       simp [e5]at this
       omega
   · obtain⟨k,rfl⟩:∃k,i=k+1:=⟨i - 1,by omega⟩
     have w1:IntKind.i64.wrap (k:Int)=(k:Int):=w64 (by omega) (by omega)
     obtain⟨a,e1,p,e2,e3,u,l,r,ht,sz,all,e4⟩:=ent k (by omega)
     have hd:decide ((k:Int) < 0)=false:=decide_eq_false (by omega)
     have hd2:¬(k:Int) < 0:=by omega
     simp -implicitDefEqProofs [w1,hd,hd2,e1,e3]
     refine item_ev e4 ?_
     simp -implicitDefEqProofs [w1,hd,hd2,e1,e3]
     refine fin k p e2 (.inl (by have:=ltk k p e2 (by omega);omega)) (fun j p' hj hp'=>?_) _ (fun n b hQ=>?_)
     · have h1:=gek j p' hp' (by omega)
       by_cases e:j=k+1
       · subst e
         rw [hks,hp']at c
         have:p'.2.n≠an:=fun e=>c (by simp [e])
         omega
       · obtain⟨l2,e6⟩:=List.getElem?_eq_some_iff.1 hp'
         have e0:(ix ar)[k+1]?=some ((ix ar)[k+1]'(by omega)):=List.getElem?_eq_getElem _
         have g0:=gek (k+1) _ e0 (Nat.le_refl _)
         have:=List.pairwise_iff_getElem.1 (S.ix.ord ar) (k+1) j (by simp;omega) (by simpa using l2) (by omega)
         simp [e6]at this
         omega
     · simp -implicitDefEqProofs [e3,same_self]
       exact hQ
end
end Go.Proofs.YtlhlbamcgopiiaaGreatDoor
set_option linter.all false
set_option maxRecDepth 100000
set_option maxHeartbeats 4000000
namespace Go.Proofs.YtlhlbamcgopiiaaGreatDoor
open Go Go.RowKit Go.Proofs
variable {zT:List AVal}
def SOwn (h:AHeap) (s:Nat) (m:AVal) (t:Rt RunV) (o:Nat):Prop:=o=s∨o∈t.ids∨IObj m h o
structure Stp (h:AHeap) (O:Nat→Prop) (h':AHeap) (O':Nat→Prop):Prop where
 nx:h.next≤h'.next
 keep:∀o,o < h.next→¬O o→h'.get o=h.get o
 own:∀o,O' o→O o∨h.next≤o
theorem Stp.refl (h:AHeap) (O:Nat→Prop):Stp h O h O:=⟨Nat.le_refl _,fun _ _ _=>rfl,fun _ h=>.inl h⟩
theorem Stp.trans {a b c:AHeap} {A B C:Nat→Prop} (x:Stp a A b B) (y:Stp b B c C):Stp a A c C:=
 ⟨Nat.le_trans x.nx y.nx,fun o ho hn=>by
  rw [y.keep o (Nat.lt_of_lt_of_le ho x.nx) (fun hb=>(x.own o hb).elim hn (by omega)),x.keep o ho hn],
  fun o ho=>(y.own o ho).elim (x.own o) (fun h=>.inr (Nat.le_trans x.nx h))⟩
theorem Stp.toOld {h0 a b:AHeap} {A B:Nat→Prop} (x:Stp a A b B) (y:Old h0 a) (hA:∀o,A o→h0.next≤o):Old h0 b∧∀o,B o→h0.next≤o:=
 ⟨⟨Nat.le_trans y.1 x.nx,fun o ho=>by rw [x.keep o (Nat.lt_of_lt_of_le ho y.1) (fun h=>by have:=hA o h;omega),y.2 o ho]⟩,fun o ho=>(x.own o ho).elim (hA o) (fun h=>Nat.le_trans y.1 h)⟩
theorem entA_inj:∀{a b:List (Nat×AVal)},entA a=entA b→a=b
 | [],[],_=>rfl
 | [],_ :: _,h=>by cases h
 | _ :: _,[],h=>by cases h
 | x :: a,y :: b,h=>by
  unfold entA at h
  simp only [List.map_cons,List.cons.injEq,Prod.mk.injEq,AVal.int.injEq,true_and]at h
  obtain⟨⟨h1,h2⟩,h3⟩:=h
  rw [entA_inj (a:=a) (b:=b) h3]
  congr 1
  exact Prod.ext (by omega) h2
theorem PL.keep {h h':AHeap} {v:AVal} {ps:List Nat} (p:PL h v ps) (k:∀o,vobj v o→h'.get o=h.get o):PL h' v ps:=by
 rcases p with ⟨rfl,rfl⟩ | ⟨o,fz,vs,rfl,h1,h2,h3⟩
 · exact .inl ⟨rfl,rfl⟩
 · exact .inr ⟨o,fz,vs,rfl,by rw [k o rfl];exact h1,h2,h3⟩
section
variable {h h':AHeap} {s:Nat} {m:AVal} {t:Rt RunV} {M:Nat×RunV→Prop} {ix:Nat→List (Nat×RunV)}
theorem Sx.lt (S:Sx zT h s m t M ix):∀o,SOwn h s m t o→o < h.next:=by
 rintro o (rfl | ho | ⟨q,rfl,ho⟩)
 · exact S.rp.lr
 · exact S.rp.lt o ho
 · rcases S.ix.obj with ⟨h0,_⟩ | ⟨q',ks,h0,h1,h2,h3,h4,h5⟩
   · cases h0
   · cases h0
     rcases ho with rfl | ⟨ks',r,e1,e2⟩
     · exact h1
     · rw [h2]at e1;cases entA_inj (AObj.map.inj (Option.some.inj e1))
       exact(h4 r o e2).1
theorem IObj.keep (S:Sx zT h s m t M ix) (k:∀o,IObj m h o→h'.get o=h.get o) (o:Nat):IObj m h' o↔IObj m h o:=by
 constructor
 · rintro⟨q,rfl,ho⟩
   refine⟨q,rfl,ho.imp_right ?_⟩
   rintro⟨ks,r,e1,e2⟩
   rw [k q ⟨q,rfl,.inl rfl⟩]at e1
   exact⟨ks,r,e1,e2⟩
 · rintro⟨q,rfl,ho⟩
   refine⟨q,rfl,ho.imp_right ?_⟩
   rintro⟨ks,r,e1,e2⟩
   rw [←k q ⟨q,rfl,.inl rfl⟩]at e1
   exact⟨ks,r,e1,e2⟩
theorem IX.keep (X:IX h m M ix) (k:∀o,IObj m h o→h'.get o=h.get o) (hn:h.next≤h'.next):IX h' m M ix:=by
 refine⟨X.mem,X.ord,?_⟩
 rcases X.obj with h0 | ⟨q,ks,rfl,h1,h2,h3,h4,h5⟩
 · exact .inl h0
 · exact .inr ⟨q,ks,rfl,Nat.lt_of_lt_of_le h1 hn,by rw [k q ⟨q,rfl,.inl rfl⟩];exact h2,fun r=>(h3 r).keep (fun o ho=>k o ⟨q,rfl,.inr ⟨ks,r,h2,ho⟩⟩),fun r o ho=>⟨Nat.lt_of_lt_of_le (h4 r o ho).1 hn,(h4 r o ho).2⟩,h5⟩
theorem Sx.tree {t':Rt RunV} (S:Sx zT h s m t M ix) (R:Rp ([],m :: zT) h' s t') (hs:∀p,M p→p∈t'.items) (k:∀o,o < h.next→o≠s→o ∉ t.ids→h'.get o=h.get o) (hn:h.next≤h'.next) (hi:∀o∈t'.ids,o∈t.ids∨h.next≤o):Sx zT h' s m t' M ix∧Stp h (SOwn h s m t) h' (SOwn h' s m t'):=by
 have kk:∀o,IObj m h o→h'.get o=h.get o:=fun o ho=>k o (S.lt o (.inr (.inr ho))) (S.sep o ho).1 (S.sep o ho).2
 refine⟨⟨R,S.ix.keep kk hn,hs,fun o ho=>?_⟩,hn,fun o ho hn'=>k o ho (fun e=>hn' (.inl e)) (fun e=>hn' (.inr (.inl e))),?_⟩
 · have ho:=(IObj.keep S kk o).1 ho
   refine⟨(S.sep o ho).1,fun hm=>?_⟩
   rcases hi o hm with h1 | h1
   · exact(S.sep o ho).2 h1
   · have:=S.lt o (.inr (.inr ho));omega
 · rintro o (rfl | ho | ho)
   · exact .inl (.inl rfl)
   · exact(hi o ho).imp_left (fun h=>.inr (.inl h))
   · exact .inl (.inr (.inr ((IObj.keep S kk o).1 ho)))
theorem Sx.old (S:Sx zT h s m t M ix) (o:Old h h'):Sx zT h' s m t M ix∧Stp h (SOwn h s m t) h' (SOwn h' s m t):=
 S.tree (S.rp.old o) S.sub (fun q h1 _ _=>o.2 q h1) o.1 (fun q hq=>.inl hq)
theorem pw_ins {ks:List Nat} {i t:Nat} (h:ks.Pairwise (· < ·)) (h1:∀j k,j < i→ks[j]?=some k→k < t) (h2:∀j k,i≤j→ks[j]?=some k→t < k):(ks.take i++t :: ks.drop i).Pairwise (· < ·):=by
 have a1:∀k∈ks.take i,k < t:=fun k hk=>by
  obtain⟨j,hj⟩:=List.mem_iff_getElem?.1 hk
  rw [List.getElem?_take]at hj
  split at hj
  · exact h1 j k (by assumption) hj
  · cases hj
 have a2:∀k∈ks.drop i,t < k:=fun k hk=>by
  obtain⟨j,hj⟩:=List.mem_iff_getElem?.1 hk
  rw [List.getElem?_drop]at hj
  exact h2 (i+j) k (by omega) hj
 have h':=h
 rw [←List.take_append_drop i ks,List.pairwise_append]at h'
 rw [List.pairwise_append,List.pairwise_cons]
 refine⟨h'.1,⟨a2,h'.2.1⟩,fun a ha b hb=>?_⟩
 rcases List.mem_cons.1 hb with rfl | hb
 · exact a1 a ha
 · exact h'.2.2 a ha b hb
end
end Go.Proofs.YtlhlbamcgopiiaaGreatDoor
