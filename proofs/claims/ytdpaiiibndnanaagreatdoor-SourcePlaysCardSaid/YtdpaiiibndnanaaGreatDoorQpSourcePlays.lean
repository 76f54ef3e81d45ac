/- What any calls do,with any fuse and crashes,and which places batches take. -/
import Derived.Test.YtdpaiiibndnanaaGreatDoorRows
import Derived.WalkKit
import Derived.ProofKit
import Derived.OpenShut
import Derived.ShutString
import Derived.ChangeOld
import Derived.Below
import Derived.Handed
import Derived.LaidLaws
import Derived.LaidHandle
import Derived.LaidMore
import Derived.SevenTiedAt
import Derived.Test.YtdpaiiibndnanaaGreatDoorCards
import Derived.Test.YtdpaiiibndnanaaGreatDoorTie
import Derived.SizedLaws
import Derived.Test.YtdpaiiibndnanaaGreatDoorQpSoH
namespace Go.Proofs.YtdpaiiibndnanaaGreatDoor.sourcePlays
open Go.ChangeShapes Go.WideShapes Go.ChangeAt Go.RowKit
set_option linter.unusedVariables false
theorem own:ownKnob Tryz.prog.godebug=none:=by kernel_rfl
theorem laidOut:laidOutB Tryz.prog=true:=by kernel_rfl
theorem yZ (os:Os) (args:Array Value):laidMetH Tryz.prog Rows.sourcePlaysRow.laid ((World.doorLaid Tryz.prog 24 os).forCall (fun _ _=>0) ⟨#[],args,[]⟩).memory:=
 laidMetH_of_parts3 (fuel:=8) (laidMet_of_run' 8 (by kernel_rfl) (by kernel_rfl)) (by kernel_rfl) (by kernel_rfl)
set_option maxRecDepth 100000 in
theorem lifted (os:Os) (started:os.Started) (H:Type) (enc:TypeId×Value→H) :
  ReturnsInHanded {} Tryz.checked os 7 .any (fun w args=>(Rows.sourcePlaysSpec.pre enc Tryz.prog Tryz.f7 [] false w args∧laidMetH Tryz.prog Rows.sourcePlaysRow.laid w)∧sizedMet enc Tryz.prog Tryz.f7 (OpenSpec.ofChange Rows.sourcePlaysSpec) false w args) (Rows.sourcePlaysSpec.post enc Tryz.prog Tryz.f7 false true false false):=by
 refine returnsInHanded_of_change_and (C:=Tryz.checked) (X:=fun w _=>laidMetH Tryz.prog Rows.sourcePlaysRow.laid w) (fun _ _ _ hh h=>h.of_heap hh) own started (by kernel_rfl) Tryz.func7
  (ChangeSpec.witness_shaped (enc:=enc) (C:=Tryz.checked) (os:=os) (X:=fun w _=>laidMetH Tryz.prog Rows.sourcePlaysRow.laid w) false (World.doorLaid Tryz.prog 24 os) #[.int .u16 0,.int .i64 0,.int .i64 0,.slice none 0 0] 8 rfl (World.shaped_of_RefB (by kernel_rfl) (by kernel_rfl)) (by kernel_rfl) (by kernel_rfl) (by kernel_rfl) (yZ os _)) ?_
 intro W base args ds gs before hval0 hW hcnd hsz hlaid _
 have hval:∀ (j:Nat) t v,Tryz.f7.params[j]? = some t→args[j]? = some v→Value.okWide Tryz.prog W .any base t v:=hval0
 have hW':=hW
 obtain ⟨p,q,hA0,hV,rfl,hfz,hnd⟩:=hW
 have hA:DataW.TrodAll enc Tryz.prog W 0 (fun _=>true) true Tryz.f7.params.toList args.toList ds p:=hA0
 rw [Tryz.params7] at hA hval
 obtain ⟨v0,vs0,d0,ds0,p0,q0,hargs,rfl,rfl,t0,r0⟩:=trodAll_cons hA
 obtain ⟨v1,vs1,d1,ds1,p1,q1,rfl,rfl,rfl,t1,r1⟩:=trodAll_cons r0
 obtain ⟨v2,vs2,d2,ds2,p2,q2,rfl,rfl,rfl,t2,r2⟩:=trodAll_cons r1
 obtain ⟨v3,vs3,d3,ds3,p3,q3,rfl,rfl,rfl,t3,r3⟩:=trodAll_cons r2
 obtain ⟨rfl,rfl,rfl⟩:=trodAll_nil r3
 obtain rfl:args=#[v0,v1,v2,v3]:=by cases args; simp_all
 obtain ⟨rfl,rfl⟩:=trodVars_none hV
 have lt0:∀ x∈p0,x.block<W.heap.size:=by obtain ⟨m,hm⟩:=t0; exact DataW.trod_lt m _ _ _ hm
 have o0:=hval 0 45 v0 rfl rfl
 have lt1:∀ x∈p1,x.block<W.heap.size:=by obtain ⟨m,hm⟩:=t1; exact DataW.trod_lt m _ _ _ hm
 have o1:=hval 1 3 v1 rfl rfl
 have lt2:∀ x∈p2,x.block<W.heap.size:=by obtain ⟨m,hm⟩:=t2; exact DataW.trod_lt m _ _ _ hm
 have o2:=hval 2 3 v2 rfl rfl
 have lt3:∀ x∈p3,x.block<W.heap.size:=by obtain ⟨m,hm⟩:=t3; exact DataW.trod_lt m _ _ _ hm
 have o3:=hval 3 58 v3 rfl rfl
 clear hA0 hval0
 have done:Calls Tryz.prog 7 #[v0,v1,v2,v3] W fun e W'=>e=.returned (.bool true)∧Below W.heap.size W W':=by
  obtain ⟨s0,rfl,_,_,w0⟩:=open_int Tryz.underlying45 o0 t0;obtain ⟨n0,rfl,h0⟩:=xR w0;obtain ⟨s1,rfl,_,_,_⟩:=open_int Tryz.underlying3 o1 t1;obtain ⟨s2,rfl,_,_,_⟩:=open_int Tryz.underlying3 o2 t2;obtain ⟨a,l,c,acts,rfl,hl,hlc,hcm,HA⟩:=uz Tryz.underlying58 (by kernel_rfl) (by kernel_rfl) o3 t3;exact Dw (nV W.heap h0 HA hl (Nat.le_trans hlc hcm))
 refine done.mono fun e W' ⟨he,bel⟩=>?_
 subst he
 exact ⟨_,rfl,_,_,_,[],_,[],hW',trodAll_mk1 (shut_bool Tryz.underlying4 _),(trodAll_cons_mk (Below.trod laidOut (by kernel_rfl) (of_decide_eq_true (by kernel_rfl)) t0 bel lt0) (trodAll_cons_mk (Below.trod laidOut (by kernel_rfl) (of_decide_eq_true (by kernel_rfl)) t1 bel lt1) (trodAll_cons_mk (Below.trod laidOut (by kernel_rfl) (of_decide_eq_true (by kernel_rfl)) t2 bel lt2) (trodAll_cons_mk (Below.trod laidOut (by kernel_rfl) (of_decide_eq_true (by kernel_rfl)) t3 bel lt3) trodAll_mk0)))),rfl,bel.frame _,fun h=>by cases h⟩
theorem over:Rows.sourcePlaysRow.holds Tryz.pinned (OpenSpec.ofChange Rows.sourcePlaysSpec):=
 OpenClaim.holds_of_wide 7 Tryz.f7 rfl rfl rfl rfl rfl rfl rfl ⟨rfl,rfl,rfl,rfl,rfl⟩ rfl rfl rfl rfl rfl (by kernel_rfl) Tryz.func7 (by kernel_rfl)
  (of_decide_eq_true (by kernel_rfl)) (by unfold Func.isWrapper; first | (rw [if_pos (by decide +kernel)]; kernel_rfl) | (rw [if_neg (by decide +kernel)]; exact ⟨rfl,rfl⟩))
  (fun os started H enc _=>lifted os started H enc)
theorem proved:Rows.SourcePlaysCardSaid:=
 Claim7.holds_tied_plain_at .later [] [.data,.data,.data] true (true,"4209e8a6d418f83a037f158d05cd456d9e6469dbe0aa78d1f30f455c8f7bbb8a") true over (fun _ h=>by cases h) (by kernel_rfl) (fun _ h=>by cases h) sourcePlays_row_tie rfl ⟨rfl,rfl⟩ (by kernel_rfl) rfl
  (fun f fn hf hfn=>by
   obtain rfl:f=7:=Option.some.inj ((show Tryz.prog.funcNamed Rows.sourcePlaysRow.func=some 7 by kernel_rfl).symm.trans hf) |>.symm
   obtain rfl:fn=Tryz.f7:=(Option.some.inj (Tryz.func7.symm.trans hfn)).symm;exact ⟨by kernel_rfl,fun j t ht=>by
    have hall:(Tryz.f7.params.toList.all fun t => !Tryz.prog.wantsStandIn t)=true:=by kernel_rfl
    have:=List.all_eq_true.1 hall t (Array.mem_toList_iff.2 (Array.mem_of_getElem? ht));exact (by simpa using this:Tryz.prog.wantsStandIn t=false)⟩)
  (by kernel_rfl)
#print axioms proved
end Go.Proofs.YtdpaiiibndnanaaGreatDoor.sourcePlays
