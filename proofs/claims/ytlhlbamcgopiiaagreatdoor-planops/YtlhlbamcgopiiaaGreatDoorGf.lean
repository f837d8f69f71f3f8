/-
  A part of the proof of PlanOps, over the seat YtlhlbamcgopiiaaGreatDoor: for every input the law returns true, and the input reads as it did.
-/
import Derived.Test.YtlhlbamcgopiiaaGreatDoorGe
import Derived.Test.YtlhlbamcgopiiaaGreatDoorChecked
set_option linter.all false
set_option linter.all false
set_option maxRecDepth 100000
namespace Go.Proofs.YtlhlbamcgopiiaaGreatDoor.Ins
open Go Go.RowKit Go.Proofs Go.Proofs.YtlhlbamcgopiiaaGreatDoor
def annL:List (Nat×FnAnn):=[
 (214,⟨true,[],[(0,[6]),(1,[10,11,12]),(2,[13,14]),(3,[15]),(4,[0,1,2,7,16,17]),(5,[16,18,19]),(6,[20,21]),(7,[0,1,2,7,8,22,23,24,25]),(8,[22,26,27,28,29,30]),(9,[8,31,32,33,34,35,36,37,38,39,40]),(10,[2,41,42,43,44,45]),(11,[0,1,7,46,47,48,49,50,51,52,53,54]),(12,[9,55]),(13,[31,56,57,58,59,60]),(14,[61,62,63,64,65,66,67]),(15,[7,8,68,69,70,71,72,73,74,75,76,77]),(16,[1,2,78,79,80,81,82]),(17,[0,83]),(18,[2,8,68,84,85,86,87,88]),(19,[1,7,89,90,91,92,93]),(20,[0,94])]⟩)]
def eqL:Nat→Bool:=fun t=>([55,70]:List Nat).contains t
def primL (f:Nat):Option Prim:=if f=224 then some ovlP else none
noncomputable def cfg:Cfg:=⟨Tryz.prog,annOf annL,eqL,primL,fun _=>none,fun _=>false⟩
theorem okAll:annL.all (fnOk Tryz.prog)=true:=by kernel_rfl
theorem eqsOk:([55,70]:List Nat).all (fun t=>!Tryz.prog.stoodInHeld t && !Tryz.prog.eqGuardType Tryz.prog.depth t)=true:=by kernel_rfl
theorem eqsAll:∀t,eqL t=true→Tryz.prog.stoodInHeld t=false∧Tryz.prog.eqGuardType Tryz.prog.depth t=false:=by
 intro t h
 have h1:=List.all_eq_true.1 eqsOk t (by simpa [eqL] using h)
 simpa using h1
theorem primsOk:∀(F:Fix),F.c.P=Tryz.prog→F.Ok→∀f g,primL f=some g→∀args h v h',g args h=.ok (v,h')→h.next≤h'.next∧
 ∀ι w (av:Array Value),Rel F ι h w→VRels ι F.ρ args av.toList→Fresh ι h.next h'.next→CallTo F.c.P f av w (Out F ι h w v h'):=by
 intro F hP hok f g hg
 unfold primL at hg
 split at hg
 · rename_i hf;subst hf;cases hg;exact ovlP_sound F hP hok
 cases hg
theorem sureC:SureC cfg:=⟨eqsAll,code_of okAll,primsOk,Tryz.checked.mixed⟩
theorem covAll:coverAll Tryz.prog=true:=by kernel_rfl
noncomputable def cfgR (ro:Nat→Option (List AVal)):Cfg:={ cfg with ro:=ro }
section
variable {ro:Nat→Option (List AVal)}
@[simp] theorem cfgP:(cfgR ro).P=Tryz.prog:=rfl
@[simp] theorem cfgRo:(cfgR ro).ro=ro:=rfl
@[simp] theorem cfgEq:(cfgR ro).eqOk=eqL:=rfl
@[simp] theorem cfgBld (t:Nat):(cfgR ro).bld t=false:=rfl
@[simp] theorem ann214:(cfgR ro).ann 214=⟨true,[],[(0,[6]),(1,[10,11,12]),(2,[13,14]),(3,[15]),(4,[0,1,2,7,16,17]),(5,[16,18,19]),(6,[20,21]),(7,[0,1,2,7,8,22,23,24,25]),(8,[22,26,27,28,29,30]),(9,[8,31,32,33,34,35,36,37,38,39,40]),(10,[2,41,42,43,44,45]),(11,[0,1,7,46,47,48,49,50,51,52,53,54]),(12,[9,55]),(13,[31,56,57,58,59,60]),(14,[61,62,63,64,65,66,67]),(15,[7,8,68,69,70,71,72,73,74,75,76,77]),(16,[1,2,78,79,80,81,82]),(17,[0,83]),(18,[2,8,68,84,85,86,87,88]),(19,[1,7,89,90,91,92,93]),(20,[0,94])]⟩:=rfl
end
@[simp] theorem sz3:sizeR Tryz.prog 3=.ok 1:=by kernel_rfl
@[simp] theorem ag3:isAggR Tryz.prog 3=.ok false:=by kernel_rfl
@[simp] theorem zv3:zeroV Tryz.prog 3=.ok (.int .i64 0):=by kernel_rfl
@[simp] theorem zc3:zeroCellsR Tryz.prog 3=.ok [.int .i64 0]:=by kernel_rfl
@[simp] theorem un3:undR Tryz.prog 3=.ok (.int .i64):=by kernel_rfl
@[simp] theorem nm3:notMake Tryz.prog (some 3)=.err 130:=by kernel_rfl
@[simp] theorem sz4:sizeR Tryz.prog 4=.ok 1:=by kernel_rfl
@[simp] theorem ag4:isAggR Tryz.prog 4=.ok false:=by kernel_rfl
@[simp] theorem zv4:zeroV Tryz.prog 4=.ok (.bool false):=by kernel_rfl
@[simp] theorem zc4:zeroCellsR Tryz.prog 4=.ok [.bool false]:=by kernel_rfl
@[simp] theorem un4:undR Tryz.prog 4=.ok .bool:=by kernel_rfl
@[simp] theorem nm4:notMake Tryz.prog (some 4)=.ok ():=by kernel_rfl
@[simp] theorem sz9:sizeR Tryz.prog 9=.ok 1:=by kernel_rfl
@[simp] theorem ag9:isAggR Tryz.prog 9=.ok false:=by kernel_rfl
@[simp] theorem zv9:zeroV Tryz.prog 9=.ok (.str []):=by kernel_rfl
@[simp] theorem zc9:zeroCellsR Tryz.prog 9=.ok [.str []]:=by kernel_rfl
@[simp] theorem un9:undR Tryz.prog 9=.ok .string:=by kernel_rfl
@[simp] theorem nm9:notMake Tryz.prog (some 9)=.ok ():=by kernel_rfl
@[simp] theorem sz25:sizeR Tryz.prog 25=.ok 1:=by kernel_rfl
@[simp] theorem ag25:isAggR Tryz.prog 25=.ok false:=by kernel_rfl
@[simp] theorem zv25:zeroV Tryz.prog 25=.ok (.nilp):=by kernel_rfl
@[simp] theorem zc25:zeroCellsR Tryz.prog 25=.ok [.nilp]:=by kernel_rfl
@[simp] theorem un25:undR Tryz.prog 25=.ok (.pointer 259):=by kernel_rfl
@[simp] theorem nm25:notMake Tryz.prog (some 25)=.ok ():=by kernel_rfl
@[simp] theorem sz26:sizeR Tryz.prog 26=.ok 1:=by kernel_rfl
@[simp] theorem ag26:isAggR Tryz.prog 26=.ok false:=by kernel_rfl
@[simp] theorem zv26:zeroV Tryz.prog 26=.ok (.int .u64 0):=by kernel_rfl
@[simp] theorem zc26:zeroCellsR Tryz.prog 26=.ok [.int .u64 0]:=by kernel_rfl
@[simp] theorem un26:undR Tryz.prog 26=.ok (.int .u64):=by kernel_rfl
@[simp] theorem nm26:notMake Tryz.prog (some 26)=.err 130:=by kernel_rfl
@[simp] theorem sz41:sizeR Tryz.prog 41=.ok 1:=by kernel_rfl
@[simp] theorem ag41:isAggR Tryz.prog 41=.ok false:=by kernel_rfl
@[simp] theorem zv41:zeroV Tryz.prog 41=.ok (.int .u32 0):=by kernel_rfl
@[simp] theorem zc41:zeroCellsR Tryz.prog 41=.ok [.int .u32 0]:=by kernel_rfl
@[simp] theorem un41:undR Tryz.prog 41=.ok (.int .u32):=by kernel_rfl
@[simp] theorem nm41:notMake Tryz.prog (some 41)=.err 130:=by kernel_rfl
@[simp] theorem sz47:sizeR Tryz.prog 47=.ok 1:=by kernel_rfl
@[simp] theorem ag47:isAggR Tryz.prog 47=.ok false:=by kernel_rfl
@[simp] theorem zv47:zeroV Tryz.prog 47=.ok (.int .u16 0):=by kernel_rfl
@[simp] theorem zc47:zeroCellsR Tryz.prog 47=.ok [.int .u16 0]:=by kernel_rfl
@[simp] theorem un47:undR Tryz.prog 47=.ok (.int .u16):=by kernel_rfl
@[simp] theorem nm47:notMake Tryz.prog (some 47)=.err 130:=by kernel_rfl
@[simp] theorem sz55:sizeR Tryz.prog 55=.ok 2:=by kernel_rfl
@[simp] theorem ag55:isAggR Tryz.prog 55=.ok true:=by kernel_rfl
@[simp] theorem zv55:zeroV Tryz.prog 55=.ok (.agg [.int .u16 0,.int .u32 0]):=by kernel_rfl
@[simp] theorem zc55:zeroCellsR Tryz.prog 55=.ok [.int .u16 0,.int .u32 0]:=by kernel_rfl
@[simp] theorem nm55:notMake Tryz.prog (some 55)=.ok ():=by kernel_rfl
@[simp] theorem sz88:sizeR Tryz.prog 88=.ok 3:=by kernel_rfl
@[simp] theorem ag88:isAggR Tryz.prog 88=.ok true:=by kernel_rfl
@[simp] theorem zv88:zeroV Tryz.prog 88=.ok (.agg [.int .u64 0,.int .u16 0,.int .u32 0]):=by kernel_rfl
@[simp] theorem zc88:zeroCellsR Tryz.prog 88=.ok [.int .u64 0,.int .u16 0,.int .u32 0]:=by kernel_rfl
@[simp] theorem nm88:notMake Tryz.prog (some 88)=.ok ():=by kernel_rfl
@[simp] theorem sz102:sizeR Tryz.prog 102=.ok 1:=by kernel_rfl
@[simp] theorem ag102:isAggR Tryz.prog 102=.ok false:=by kernel_rfl
@[simp] theorem zv102:zeroV Tryz.prog 102=.ok (.cplx .f64 0 0):=by kernel_rfl
@[simp] theorem zc102:zeroCellsR Tryz.prog 102=.ok [.cplx .f64 0 0]:=by kernel_rfl
@[simp] theorem un102:undR Tryz.prog 102=.ok (.complex .f64):=by kernel_rfl
@[simp] theorem nm102:notMake Tryz.prog (some 102)=.ok ():=by kernel_rfl
@[simp] theorem sz104:sizeR Tryz.prog 104=.ok 2:=by kernel_rfl
@[simp] theorem ag104:isAggR Tryz.prog 104=.ok true:=by kernel_rfl
@[simp] theorem zv104:zeroV Tryz.prog 104=.ok (.agg [.cplx .f64 0 0,.cplx .f64 0 0]):=by kernel_rfl
@[simp] theorem zc104:zeroCellsR Tryz.prog 104=.ok [.cplx .f64 0 0,.cplx .f64 0 0]:=by kernel_rfl
@[simp] theorem nm104:notMake Tryz.prog (some 104)=.ok ():=by kernel_rfl
@[simp] theorem sz202:sizeR Tryz.prog 202=.ok 7:=by kernel_rfl
@[simp] theorem ag202:isAggR Tryz.prog 202=.ok true:=by kernel_rfl
@[simp] theorem zv202:zeroV Tryz.prog 202=.ok (.agg [.int .u64 0,.int .u16 0,.int .u32 0,.int .u16 0,.int .u32 0,.str [],.bool false]):=by kernel_rfl
@[simp] theorem zc202:zeroCellsR Tryz.prog 202=.ok [.int .u64 0,.int .u16 0,.int .u32 0,.int .u16 0,.int .u32 0,.str [],.bool false]:=by kernel_rfl
@[simp] theorem nm202:notMake Tryz.prog (some 202)=.ok ():=by kernel_rfl
@[simp] theorem sz220:sizeR Tryz.prog 220=.ok 4:=by kernel_rfl
@[simp] theorem ag220:isAggR Tryz.prog 220=.ok true:=by kernel_rfl
@[simp] theorem zv220:zeroV Tryz.prog 220=.ok (.agg [.int .i64 0,.int .i64 0,.cplx .f64 0 0,.cplx .f64 0 0]):=by kernel_rfl
@[simp] theorem zc220:zeroCellsR Tryz.prog 220=.ok [.int .i64 0,.int .i64 0,.cplx .f64 0 0,.cplx .f64 0 0]:=by kernel_rfl
@[simp] theorem nm220:notMake Tryz.prog (some 220)=.ok ():=by kernel_rfl
@[simp] theorem sz259:sizeR Tryz.prog 259=.ok 16:=by kernel_rfl
@[simp] theorem ag259:isAggR Tryz.prog 259=.ok true:=by kernel_rfl
@[simp] theorem zv259:zeroV Tryz.prog 259=.ok (.agg [.nilp,.nilp,.nilp,.int .u64 0,.int .i64 0,.int .u64 0,.int .u16 0,.int .u32 0,.int .u16 0,.int .u32 0,.str [],.bool false,.int .i64 0,.int .i64 0,.cplx .f64 0 0,.cplx .f64 0 0]):=by kernel_rfl
@[simp] theorem zc259:zeroCellsR Tryz.prog 259=.ok [.nilp,.nilp,.nilp,.int .u64 0,.int .i64 0,.int .u64 0,.int .u16 0,.int .u32 0,.int .u16 0,.int .u32 0,.str [],.bool false,.int .i64 0,.int .i64 0,.cplx .f64 0 0,.cplx .f64 0 0]:=by kernel_rfl
@[simp] theorem nm259:notMake Tryz.prog (some 259)=.ok ():=by kernel_rfl
@[simp] theorem sz270:sizeR Tryz.prog 270=.ok 1:=by kernel_rfl
@[simp] theorem ag270:isAggR Tryz.prog 270=.ok false:=by kernel_rfl
@[simp] theorem zv270:zeroV Tryz.prog 270=.ok (.nils):=by kernel_rfl
@[simp] theorem zc270:zeroCellsR Tryz.prog 270=.ok [.nils]:=by kernel_rfl
@[simp] theorem un270:undR Tryz.prog 270=.ok (.slice 25):=by kernel_rfl
@[simp] theorem el270:elemSl Tryz.prog 270=.ok 25:=by kernel_rfl
@[simp] theorem nm270:notMake Tryz.prog (some 270)=.ok ():=by kernel_rfl
@[simp] theorem co0:Tryz.prog.cellsOf 0=1:=by kernel_rfl
@[simp] theorem co3:Tryz.prog.cellsOf 3=1:=by kernel_rfl
@[simp] theorem co4:Tryz.prog.cellsOf 4=1:=by kernel_rfl
@[simp] theorem co9:Tryz.prog.cellsOf 9=1:=by kernel_rfl
@[simp] theorem co25:Tryz.prog.cellsOf 25=1:=by kernel_rfl
@[simp] theorem co26:Tryz.prog.cellsOf 26=1:=by kernel_rfl
@[simp] theorem co41:Tryz.prog.cellsOf 41=1:=by kernel_rfl
@[simp] theorem co47:Tryz.prog.cellsOf 47=1:=by kernel_rfl
@[simp] theorem co55:Tryz.prog.cellsOf 55=2:=by kernel_rfl
@[simp] theorem co88:Tryz.prog.cellsOf 88=3:=by kernel_rfl
@[simp] theorem co102:Tryz.prog.cellsOf 102=1:=by kernel_rfl
@[simp] theorem co104:Tryz.prog.cellsOf 104=2:=by kernel_rfl
@[simp] theorem co202:Tryz.prog.cellsOf 202=7:=by kernel_rfl
@[simp] theorem co220:Tryz.prog.cellsOf 220=4:=by kernel_rfl
@[simp] theorem co259:Tryz.prog.cellsOf 259=16:=by kernel_rfl
@[simp] theorem co270:Tryz.prog.cellsOf 270=1:=by kernel_rfl
@[simp] theorem nmN:notMake Tryz.prog none=.ok ():=rfl
theorem inf270:∃i,infoR Tryz.prog 25=.ok i∧i.size=1∧i.bytes=8:=⟨_,rfl,by kernel_rfl,by kernel_rfl⟩
@[simp] theorem ap270 {ro} (h:AHeap) (xt:Option Nat) (s x:AVal):appendR (cfgR ro) h 270 xt s x=mk2 (notMake Tryz.prog xt) (appMakeR (cfgR ro) h 270 xt s x) ((lenA x).bind fun n=>(readSl (cfgR ro) h 1 n x).bind fun new=>appCore 1 8 h s n new):=by
 obtain⟨i,h1,h2,h3⟩:=inf270
 exact append_core xt s x el270 h1 zc25 h2 h3 (by decide) (by decide) rfl
end Go.Proofs.YtlhlbamcgopiiaaGreatDoor.Ins
