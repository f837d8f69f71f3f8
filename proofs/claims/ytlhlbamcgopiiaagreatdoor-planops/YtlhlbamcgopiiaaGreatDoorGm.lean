/-
  A part of the proof of PlanOps, over the seat YtlhlbamcgopiiaaGreatDoor: for every input the law returns true, and the input reads as it did.
-/
import Derived.Test.YtlhlbamcgopiiaaGreatDoorGk
import Derived.Test.YtlhlbamcgopiiaaGreatDoorGl
set_option linter.all false
set_option linter.all false
set_option maxRecDepth 1000000
set_option maxHeartbeats 4000000
namespace Go.Proofs.YtlhlbamcgopiiaaGreatDoor
open Go Go.RowKit Go.Proofs Go.ChangeShapes Go.WideShapes Go.ChangeAt
theorem planOps_lifted (os:Os) (started:os.Started) (H:Type) (enc:TypeId×Value→H):
 ReturnsInHanded {} Tryz.checked os 8 .any (fun w args=>(YtlhlbamcgopiiaaGreatDoor.Rows.planOpsSpec.pre enc Tryz.prog Tryz.f8 [] false w args∧laidMetH Tryz.prog laidL w)∧sizedMet enc Tryz.prog Tryz.f8 (OpenSpec.ofChange YtlhlbamcgopiiaaGreatDoor.Rows.planOpsSpec) false w args) (YtlhlbamcgopiiaaGreatDoor.Rows.planOpsSpec.post enc Tryz.prog Tryz.f8 false true false false):=by
 refine returnsInHanded_of_change_and (C:=Tryz.checked) (X:=fun w _=>laidMetH Tryz.prog laidL w) (fun _ _ _ hh h=>h.of_heap hh) own started (by kernel_rfl) Tryz.func8
  (ChangeSpec.witness_at (enc:=enc) (C:=Tryz.checked) (os:=os) (X:=fun w _=>laidMetH Tryz.prog laidL w) false (w0 os) #[.slice none 0 0] 8 rfl (by kernel_rfl) (by kernel_rfl) (by kernel_rfl) (by kernel_rfl) (by kernel_rfl) (w0_met os _)) ?_
 intro W base args ds gs before hval0 hW hcnd hsz hL _
 have hval:∀(j:Nat) t v,Tryz.f8.params[j]?=some t→args[j]?=some v→Value.okWide Tryz.prog W .any base t v:=hval0
 have hW':=hW
 have hlt:=hW.lt
 obtain⟨p,q,hA0,hV,rfl,hfz,hnd⟩:=hW
 have hA:DataW.TrodAll enc Tryz.prog W 0 (fun _=>true) true Tryz.f8.params.toList args.toList ds p:=hA0
 have hA1:=hA
 rw [Tryz.params8]at hA hval
 obtain⟨v0,d0,rfl,rfl,h0⟩:=trodAll_one hA
 obtain⟨rfl,rfl⟩:=trodVars_none hV
 have hro:=root_of hL
 obtain⟨ess0,n0,hx0,hn0,hsl0⟩:=argSlice covAll (of_decide_eq_true (by kernel_rfl)) Tryz.underlying22 (by rw [co53];decide) (hval 0 22 v0 rfl rfl) h0
 obtain⟨l0,rfl⟩:=eds_of (fun x hm=>ed_of (hx0 x hm).2)
 have hS0:Sl (cfgR (roW W)) heap0 5 (absV v0) (l0.map Ed.cells):=by
  have:=hsl0 (cfgR (roW W)) heap0 rfl
  rw [co53]at this
  exact this
 obtain⟨k,v,h',hq,rfl⟩:=PlanOps_ev hro hS0 (by simpa using hn0)
 refine(entry (c:=cfg) sureC (W:=W) (args:=#[v0]) (k:=k) (v:=.bool true) (h':=h') Tryz.func8 rfl rfl (by rw [show(#[v0]:Array Value).toList.map absV=[absV v0]from rfl];exact hq)).mono fun e W' ⟨u,ι,he,hv,hb⟩=>?_
 have hu:u=.bool true:=hv
 subst hu
 refine⟨_,he,post_below hW' (fun b sp hd=>trodAll_mk1 (shut_bool Tryz.underlying4 true)) (trodAll_below laidOut hb (by kernel_rfl) hA1 (fun x hx=>hlt x (by simpa using hx))) (by exact rfl) hb⟩
end Go.Proofs.YtlhlbamcgopiiaaGreatDoor
