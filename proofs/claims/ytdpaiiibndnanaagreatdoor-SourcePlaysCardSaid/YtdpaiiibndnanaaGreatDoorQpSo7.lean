/- A source: Plan. -/
import Derived.Test.YtdpaiiibndnanaaGreatDoorQpSo6
namespace Go.Proofs.YtdpaiiibndnanaaGreatDoor
open Go.Proofs.Tryz (prog)
open List (length_drop append_assoc map_map drop_of_length_le append_nil getElem?_eq_none flatMap_cons flatMap_append getElem?_zipWith getElem?_drop drop_eq_getElem_cons length_zipWith map_set length_replicate)
open Go Go.RowKit
set_option linter.unusedVariables false
set_option linter.unusedSimpArgs false
open Dl (LP bC cnt bF j4)
open AF (aU cG Gr dD e9 Rg lf cx cH dd j5 dZ)
def A8 (r:Except Nat (List Rg)) (G:List aF) (v:Value) (h':Heap):Prop:=
 (∃ rs a,r=.ok rs∧v=.tuple #[.slice a rs.length rs.length,.int .i64 0]∧aG (aQ 86 2 a rs.length rs.length (rs.flatMap fh)::G) h')∨
 (∃ e:Nat,r=.error e∧e≠0∧v=.tuple #[.slice none 0 0,.int .i64 (e:Int)]∧aG G h')
abbrev px (ls:List aU):List Int:=ls.map fun L=>(L.dur:Int)
theorem AU (ls:List aU):p9 ls=(px ls).map iv:=by unfold p9 px; rw [map_map]; rfl
theorem wr {α:Type} {E D:List α} {i:Nat} {e d:α} (hE:E[i]? = some e) (hD:D[i]? = some d) (hi:(E.take i).length=i):(E.take i++D.drop i).set i e=E.take (i+1)++D.drop (i+1):=by
 have h1:D.drop i=d::D.drop (i+1):=by
  rw [drop_eq_getElem_cons (ak.1 hD).1];congr 1;exact (ak.1 hD).2
 rw [h1,jI hi,az,hE,append_assoc]
 rfl
theorem vL {α:Type} {E D:List α} {i:Nat} {d:α} (hD:D[i]? = some d) (hi:(E.take i).length=i):(E.take i++D.drop i)[i]? = some d:=by
 rw [List.getElem?_append_right (by omega),hi,Nat.sub_self,getElem?_drop,Nat.add_zero,hD]
theorem Do (l:List Rg):(l.flatMap fh).length=l.length*2:=by
 induction l with
 | nil=>rfl
 | cons p l ih=>rw [flatMap_cons,ao,ih,ar]; show 2+l.length*2=(l.length+1)*2; omega
section
variable {s fb:Nat} {ls:List aU} {A:AF.FS} {F:List aF} {h:Heap} {k:Nat}
set_option maxHeartbeats 1000000 in
theorem BS {was:List Rg} {a:Option Addr} {n c:Nat} {most:Int} (hr:∀ h',aG F h'→cv h' a (was.flatMap fh)) (hn:was.length=n) (hm:n<1099511627776) (I:e9 k ls) (H:aG (dN s fb ls::F) h) :
  aE prog 17 [aM s,.slice a n c,.int .i64 most] h fun v h'=>∃ r,j5 ls was most r∧A8 r (dN s fb ls::F) v h':=by
 apply EK.ap
 unfold Jk
 rw [show (some (⟨s,0,none⟩:Addr)).isNone=false from rfl,ab]
 by_cases m1:most<1
 · rw [ah m1,ae];exact ⟨.error 2,.inl ⟨rfl,.inl m1⟩,.inr ⟨2,rfl,by decide,rfl,H⟩⟩
 rw [af m1,ab]
 by_cases m2:most>1024
 · rw [ah m2,ae];exact ⟨.error 2,.inl ⟨rfl,.inr m2⟩,.inr ⟨2,rfl,by decide,rfl,H⟩⟩
 rw [af m2,ab]
 refine (ue hr hn hm I.1 H).mono ?_
 rintro v h2 ⟨rfl,H2⟩
 rw [aL]
 by_cases hw:cH ls was=0
 rotate_left
 · rw [aX hw,ae];exact ⟨.error (cH ls was),.inr (.inl ⟨by omega,hw,rfl⟩),.inr ⟨_,rfl,hw,rfl,H2⟩⟩
 rw [hw,show (((0:Nat):Int)!=0)=false from rfl,ab]
 obtain ⟨hlen,hok,hover⟩:=dZ hw
 have hn4:=I.1
 refine (pW I.1 H2).mono ?_
 rintro v h3 ⟨ea,rfl,H3⟩
 rw [aI]
 have hEl:(dd ls was).length=n:=by unfold dd; rw [length_zipWith]; omega
 have hDl:(px ls).length=n:=by rw [aq]; omega
 have bnd:∀ (i:Nat) (x:Rg) (L:aU),was[i]? = some x→ls[i]? = some L→0≤x.2∧x.2≤(L.dur:Int)∧x.2≤1099511627776:=fun i x L hx hL=>by
  have h1:=hok x (aj hx);unfold lf at h1;simp only [ay,decide_eq_true_eq] at h1;exact ⟨by omega,tg hover hx hL,h1.2⟩
 have big:∀ (i:Nat) (L:aU),ls[i]? = some L→(L.dur:Int)≤4611686018427387904:=fun i L hL=>by
  have h1:=I.2 L (aj hL);have h2:=h1.safe;have h3:=h1.small.fin;have h4:=h1.small.few;omega
 rw [AU] at H3
 refine ⟨fun st hh=>∃ i:Nat,st=(i:Int)∧i≤n∧aG (aQ 2 1 ea ls.length ls.length (((dd ls was).take i++(px ls).drop i).map iv)::dN s fb ls::F) hh,fun st _=>((n:Int) - st).toNat,⟨0,rfl,aw _,H3⟩,?_⟩
 rintro st h4 ⟨i,rfl,hi,H4⟩
 by_cases hil:i<n
 · rw [ah (show ((i:Int)<(ls.length:Int)) by omega),ae];obtain ⟨L,hL⟩:∃ L,ls[i]? = some L:=⟨_,ai (by omega)⟩
   obtain ⟨x,hx⟩:∃ x,was[i]? = some x:=⟨_,ai (by omega)⟩
   obtain ⟨b1,b2,b3⟩:=bnd i x L hx hL;have hE:(dd ls was)[i]? = some ((L.dur:Int) - x.2):=by unfold dd; rw [getElem?_zipWith,hx,hL]
   have hD:(px ls)[i]? = some (L.dur:Int):=by rw [List.getElem?_map,hL]; rfl
   have htl:((dd ls was).take i).length=i:=by rw [au]; omega
   have hmid:=vL (E:=dd ls was) hD htl;have hmid2:(((dd ls was).take i++(px ls).drop i).map iv)[i]? = some (iv (L.dur:Int)):=by rw [List.getElem?_map,hmid]; rfl
   have hall:(((dd ls was).take i++(px ls).drop i).map iv).length=ls.length:=by rw [aq,ao,htl,length_drop]; omega
   have hdur:=big i L hL;refine cN (s:=(L.dur:Int)) (aH H4) hall hmid2 fun b hb=>CI hb ?_;refine dp (f:=fh) (fun _=>rfl) (by decide) (hr h4 H4.drop.drop) hn hx fun _ _ hc=>CI (hc 1 _ rfl) ?_;refine bj (v:=iv (L.dur:Int)) (aH H4) hall hmid2 fun b2 hb2 _=>?_;subst hb2;rw [aP];refine cO H4 (by omega) fun h5 H5=>?_;rw [IntWalk.i64_in _ (by omega)] at H5;refine ⟨⟨i+1,by rw [IntWalk.i64_in _ (by omega)]; rfl,by omega,?_⟩,by rw [IntWalk.i64_in _ (by omega)]; show ((n:Int) - ((i:Int)+1)).toNat<((n:Int) - (i:Int)).toNat; omega⟩;rw [← wr hE hD htl,map_set];exact H5
 rw [af (by omega),ab,aK]
 have hin:i=n:=by omega
 rw [hin,av (by omega),drop_of_length_le (by omega),append_nil] at H4
 obtain ⟨qs,hq,H5⟩:=gz (H4.mv 1)
 refine dX (v:=.int .i64 (ls.length:Int)) H5 rfl ?_
 rw [aL]
 refine uO (e:=86) (n:=ls.length) (by kernel_rfl) (by kernel_rfl) (by kernel_rfl) (by omega) H4 fun oa h6 H6=>?_
 rw [aI]
 refine (Ba (hs:=dd ls was) (n:=ls.length) (most:=most) (F:=aQ 2 1 ea ls.length ls.length ((dd ls was).map iv)::aQ 86 2 oa ls.length ls.length ((dY ls.length).flatMap fh)::dN s fb ls::F) (fun h' H'=>aH H') (by omega) (by omega) ?_ (by omega) (H6.mv 1)).mono ?_
 · intro z hz;unfold dd at hz;obtain ⟨j,hj⟩:=List.mem_iff_getElem?.1 hz;rw [getElem?_zipWith] at hj;have hlt:j<was.length:=by
    refine Decidable.byContradiction fun hh=>?_;rw [getElem?_eq_none (by omega)] at hj;cases hj
   obtain ⟨x,hx⟩:∃ x,was[j]? = some x:=⟨_,ai hlt⟩
   obtain ⟨L,hL⟩:∃ L,ls[j]? = some L:=⟨_,ai (by omega)⟩
   rw [hx,hL] at hj;have e:z=(L.dur:Int) - x.2:=(Option.some.inj hj).symm;obtain ⟨b1,b2,b3⟩:=bnd j x L hx hL;have:=big j L hL;omega
 rintro v h7 ⟨da,d,rfl,hd,hfst,hfit,H7⟩
 rw [aI]
 have hdl:d.length=n:=by
  have:=congrArg List.length hfst;rw [aq] at this;omega
 have hPl:(AF.planOf was d).length=n:=by unfold AF.planOf; rw [length_zipWith]; omega
 refine ⟨fun st hh=>∃ i:Nat,st=(i:Int)∧i≤n∧aG (aQ 86 2 oa ls.length ls.length (((AF.planOf was d).take i++(dY ls.length).drop i).flatMap fh)::eT 2 da ls.length d::dN s fb ls::F) hh,fun st _=>((n:Int) - st).toNat,
  ⟨0,rfl,aw _,H7.ordT 3 [2,0]⟩,?_⟩
 rintro st h8 ⟨i,rfl,hi2,H8⟩
 by_cases hil2:i<n
 rotate_left
 · rw [af (by omega),ab];have hin2:i=n:=by omega
   rw [hin2,av (by omega),drop_of_length_le (by rw [length_replicate]; omega),append_nil] at H8;refine ⟨.ok (AF.planOf was d),.inr (.inr ⟨by omega,hw,d,hd,hfst,hfit,rfl⟩),.inl ⟨AF.planOf was d,oa,rfl,?_,?_⟩⟩
   · rw [hPl,← hn,hlen]
   · rw [hPl,← hn,hlen];exact H8.ordT 3 [0,2]
 rw [ah (show ((i:Int)<(ls.length:Int)) by omega),ae]
 obtain ⟨L,hL⟩:∃ L,ls[i]? = some L:=⟨_,ai (by omega)⟩
 obtain ⟨x,hx⟩:∃ x,was[i]? = some x:=⟨_,ai (by omega)⟩
 obtain ⟨q,hqd⟩:∃ q,d[i]? = some q:=⟨_,ai (by omega)⟩
 obtain ⟨b1,b2,b3⟩:=bnd i x L hx hL
 have hq1:q.1=(L.dur:Int) - x.2:=by
  have e1:(d.map (·.1))[i]? = some q.1:=by rw [List.getElem?_map,hqd]; rfl
  rw [hfst] at e1;unfold dd at e1;rw [getElem?_zipWith,hx,hL] at e1;exact (Option.some.inj e1).symm
 have hqf:=hfit q (aj hqd)
 have hbig:=big i L hL
 have hP:(AF.planOf was d)[i]? = some (x.2,x.2+q.2):=by unfold AF.planOf; rw [getElem?_zipWith,hx,hqd]
 have hZ:(dY ls.length)[i]? = some (0,0):=by rw [List.getElem?_replicate,an (by omega)]
 have htl:((AF.planOf was d).take i).length=i:=by rw [au]; omega
 have hdr:(dY ls.length).drop i=(0,0)::(dY ls.length).drop (i+1):=by
  rw [drop_eq_getElem_cons (ak.1 hZ).1];congr 1;exact (ak.1 hZ).2
 have hdv:(d.map fun p=>iv p.2)[i]? = some (iv q.2):=by rw [List.getElem?_map,hqd]; rfl
 refine cN (s:=q.2) (aH (H8.mv 1)) (by rw [aq]; omega) hdv fun b hb=>CI hb ?_
 refine dp (f:=fh) (fun _=>rfl) (by decide) (hr h8 (H8.rest 3)) hn hx fun _ _ hc=>CI (hc 1 _ rfl) ?_
 refine dp (f:=fh) (fun _=>rfl) (by decide) (hr h8 (H8.rest 3)) hn hx fun _ _ hc=>CI (hc 1 _ rfl) ?_
 have hmid:=vL (E:=AF.planOf was d) hZ htl
 have hall:((AF.planOf was d).take i++(dY ls.length).drop i).length=ls.length:=by rw [ao,htl,length_drop,length_replicate]; omega
 refine dp (f:=fh) (fun _=>rfl) (by decide) (aH H8) hall hmid fun ba hba _=>?_
 subst hba
 rw [aP]
 have e0:((AF.planOf was d).take i++(dY ls.length).drop i).flatMap fh=((AF.planOf was d).take i).flatMap fh++iv 0::iv 0::((dY ls.length).drop (i+1)).flatMap fh:=by
  rw [hdr,flatMap_append]
  rfl
 have hpl:(((AF.planOf was d).take i).flatMap fh).length=i*2:=by rw [Do,htl]
 rw [e0] at H8
 refine cO H8 (by rw [ao,hpl]; simp) fun h9 H9=>?_
 rw [jI hpl] at H9
 rw [bm]
 have e1:((AF.planOf was d).take i).flatMap fh++Value.int .i64 x.2::iv 0::((dY ls.length).drop (i+1)).flatMap fh=(((AF.planOf was d).take i).flatMap fh++[iv x.2])++iv 0::((dY ls.length).drop (i+1)).flatMap fh:=by rw [append_assoc]; rfl
 have hpl1:(((AF.planOf was d).take i).flatMap fh++[iv x.2]).length=i*2+1:=by rw [ao,hpl]; rfl
 rw [e1] at H9
 refine cO H9 (by rw [ao,hpl1]; simp) fun h10 H10=>?_
 rw [jI hpl1,IntWalk.i64_in _ (by omega)] at H10
 refine ⟨⟨i+1,by rw [IntWalk.i64_in _ (by omega)]; rfl,by omega,?_⟩,by rw [IntWalk.i64_in _ (by omega)]; show ((n:Int) - ((i:Int)+1)).toNat<((n:Int) - (i:Int)).toNat; omega⟩
 have e2:((AF.planOf was d).take (i+1)++(dY ls.length).drop (i+1)).flatMap fh=(((AF.planOf was d).take i).flatMap fh++[iv x.2])++iv (x.2+q.2)::((dY ls.length).drop (i+1)).flatMap fh:=by
  rw [az,hP,flatMap_append,flatMap_append];show ((((AF.planOf was d).take i).flatMap fh)++[iv x.2,iv (x.2+q.2)])++_=_;simp
 rw [e2]
 exact H10
end
end Go.Proofs.YtdpaiiibndnanaaGreatDoor
