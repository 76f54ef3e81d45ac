/- Append,Sync,SyncDir. Rename,Remove,Read,List,Dirs,and what is told at once. Crash. Crash: the calls themselves. -/
import Derived.Test.YtmemjbiijclbdaaGreatMpFsC
import Derived.Test.YtmemjbiijclbdaaGreatMpFsA
namespace Go.Proofs.YtmemjbiijclbdaaGreat
open Go.IntKind (wrap)
open Go.Proofs.Tryz (prog)
open List (getD_eq_getElem?_getD append_assoc getElem?_map map_take drop_zero getElem?_take pairwise_mergeSort mergeSort_perm le_antisymm pairwise_map map_cons flatMap_append append_nil length_modify map_congr_left zipWith map_map nil_append cons_append getElem?_drop drop_eq_getElem_cons take_length)
open Go Go.RowKit Go.MapKept
set_option linter.unusedVariables false
set_option linter.unusedSimpArgs false
theorem Jx:prog.underlying 31=some (.slice 5):=by kernel_rfl
theorem Gg:fS prog 31=true:=by kernel_rfl
theorem JZ:ig prog 5 1=true:=by kernel_rfl
def ri (a:Option Addr) (l c s:Nat):Obj:=.cells #[.slice a l c,.int .i64 (s:Int)] 120 (0,0)
def rh (xbs:List Nat) (fs:List AF.dy) (x:Nat):aE:=rZ wm fs xbs x
section
variable {b:Nat} {A:AF.FS} {q:tz} {F:List aE} {h:Heap}
theorem lO {xbs:List Nat} {fs:List AF.dy} {x:Nat} {y:AF.dy} {xb:Nat} (H:aD (cj xbs fs::F) h) (hx:fs[x]? = some y) (hb:xbs[x]? = some xb) :
  ∃ (a:Option Addr) (c:Nat),aD (pt xb (ri a y.b.length c y.safe)::aL 5 1 a y.b.length c (y.b.map nv)::rh xbs fs x::F) h:=by
 obtain ⟨r,H2⟩:=bg.1 (iB H hx hb)
 exact ⟨r.1,r.2,H2.open⟩
theorem oh {xbs:List Nat} {fs:List AF.dy} {x:Nat} {y y':AF.dy} {xb c:Nat} {a:Option Addr} (hx:fs[x]? = some y') (hb:xbs[x]? = some xb)
  (H:aD (pt xb (ri a y.b.length c y.safe)::aL 5 1 a y.b.length c (y.b.map nv)::rh xbs fs x::F) h):aD (cj xbs (fs.set x y)::F) h:=by
 refine uy hb (aj.1 hx).1 (bg.2 ⟨(a,c),?_⟩)
 exact aD.shut (m:=[pt xb (ri a y.b.length c y.safe),aL 5 1 a y.b.length c (y.b.map nv)]) H
theorem ra (hq:mT A q) (x:Nat) (g:AF.dy→AF.dy):mT (A.setFile x g) q:=q9 hq rfl (length_modify ..)
theorem zh (W:A.WF) {x:Nat} {g:AF.dy→AF.dy} (hg:∀ y,(g y).b=y.b):(A.setFile x g).used=A.used:=by
 unfold AF.FS.used
 congr 1
 apply map_congr_left
 intro y hy
 rw [AF.mA]
 split
 · rw [hg]
 · rfl
theorem rF {dir name:ByteArray} {ba:Option Addr} {bl bc:Nat} {bs:List Nat} (W:A.WF) (hs:A.steps<1099511627776) (hd:dir.size<4611686018427387904) (hn:name.size<4611686018427387904)
  (hr:∀ h',aD F h'→dF h' ba (bs.map nv)) (hl:bs.length=bl) (hlb:bl<4611686018427387904) (H:aD (co b A::F) h) :
  aC prog 67 [aI b,.string dir,.string name,.slice ba bl bc] h fun v h'=>v=.int .i64 ((A.append dir name bs).2:Int)∧aD (co b (A.append dir name bs).1::F) h':=by
 obtain ⟨q,hq,H0⟩:=dl H
 apply HU.ap
 unfold MA
 refine (mD W hq H0 hd hn).mono ?_
 rintro v h1 ⟨H1,⟨i,x,d,y,fb,xb,he,hdi,hfi,hy,hxb,rfl⟩ | ⟨e,he,e0,rfl⟩⟩
 · refine ⟨_,some ⟨xb,0,none⟩,0,rfl,?_⟩;rw [show ((0:Int)!=0)=false from rfl,aa];simp only [aY,aV];obtain ⟨ya,yc,hyb,_⟩:=tf (H1.mv 2) hy hxb;refine gJ (v:=.slice ya y.b.length yc) hyb rfl ?_;have hX:=AF.rA hy;have wy:=W.files y (ai hy);have hu:=W.used_le;rw [aF,← Int.natCast_add,dt (by omega)];by_cases hlong:16777216<y.b.length+bl
   · rw [af (show (((y.b.length+bl:Nat):Int)>16777216) by omega),ab];have e:A.append dir name bs=(A,67):=by
      unfold AF.FS.append;rw [he];simp only [hX,hl,al hlong]
     rw [e];exact ⟨rfl,bu q hq H1⟩
   · rw [ae (show ¬ (((y.b.length+bl:Nat):Int)>16777216) by omega),aa];refine gA (i:=1) (v:=.int .i64 (A.used:Int)) H1 rfl ?_;rw [aJ];refine gA (i:=0) (v:=.int .i64 (A.room:Int)) H1 rfl ?_;rw [aJ,← Int.natCast_add,dt (by omega)];by_cases hfull:A.room<A.used+bl
     · rw [af (show (((A.used+bl:Nat):Int)>(A.room:Int)) by omega),ab];have e:A.append dir name bs=(A,64):=by
        unfold AF.FS.append;rw [he];simp only [hX,hl,ak hlong,al hfull]
       rw [e];exact ⟨rfl,bu q hq H1⟩
     · rw [ae (show ¬ (((A.used+bl:Nat):Int)>(A.room:Int)) by omega),aa];have e:A.append dir name bs=A.step fun g=>g.setFile x fun y=>{ y with b:=y.b++bs }:=by
        unfold AF.FS.append;rw [he];simp only [hX,hl,ak hlong,ak hfull]
       rw [e];refine (j9 W hs H1).mono ?_;rintro v h2 (⟨h0,rfl,H2⟩ | ⟨h0,rfl,H2⟩)
       · rw [aJ,show ((60:Int)!=0)=true from rfl,ab];unfold AF.FS.step;rw [al h0];exact ⟨rfl,bu (A:={ A with off:=true }) q hq H2⟩
       · rw [aJ,show ((0:Int)!=0)=false from rfl,aa];unfold AF.FS.step;rw [ak h0];obtain ⟨a,c,H3⟩:=lO (H2.mv 2) hy hxb;refine gJ (v:=.slice a y.b.length c) H3.get rfl ?_;rw [aF];have H4:aD (aL 5 1 a y.b.length c (y.b.map nv)::pt xb (ri a y.b.length c y.safe)::rh q.xbs A.files x::cL b A.stepOn q.md::bF aU q.md q.m::dp q.xbs q.fbs A.dirs::F) h2:=H3.mv 1;have hrd:=hr h2 (((((H4.drop).drop).drop).drop).drop).drop;refine pj (ys:=bs) Jx Gg JZ H4 (rT hrd hl) (by omega) fun a2 c2 h3 _ H5=>?_;rw [aF];refine bQ (b:=xb) (i:=0) (c':=#[.slice a2 (y.b.length+bl) c2,.int .i64 (y.safe:Int)]) (H5.mv 1) (by show 0<2; decide) rfl fun h4 H6=>?_;refine gA (i:=1) (v:=.int .i64 (A.used:Int)) (H6.mv 3) rfl ?_;rw [aJ,← Int.natCast_add,dt (by omega)];refine bQ (b:=b) (i:=1) (c':=#[.int .i64 (A.room:Int),.int .i64 ((A.used+bl:Nat):Int),.int .i64 (A.stepOn.steps:Int),.int .i64 (eZ A.stepOn.fuse),.bool A.off,.map (some q.md)]) (H6.mv 3) (by show 1<6; decide) rfl fun h5 H7=>?_;refine ⟨rfl,bu q (ra (A:=A.stepOn) hq x _) ?_⟩;have el:(y.b++bs).length=y.b.length+bl:=by rw [am,hl]
         have H8:aD (pt xb (ri a2 (y.b++bs).length c2 y.safe)::aL 5 1 a2 (y.b++bs).length c2 ((y.b++bs).map nv)::rh q.xbs A.files x::
          jI b (A.room:Int) ((A.used+bl:Nat):Int) (A.stepOn.steps:Int) (eZ A.stepOn.fuse) A.off q.md::bF aU q.md q.m::dp q.xbs q.fbs A.dirs::F) h5:=by
          rw [el];exact H7.ordT 6 [1,2,3,0,4,5]
         have H9:=oh (y:=⟨y.b++bs,y.safe⟩) hy hxb H8;have e3:A.files.set x ⟨y.b++bs,y.safe⟩=(A.stepOn.setFile x fun y=>{ y with b:=y.b++bs }).files:=(dw (l:=A.files) (fun y:AF.dy=>{ y with b:=y.b++bs }) hy).symm;rw [e3] at H9;have eu:=W.stepOn.used_append (x:=x) (AF.zX he) bs;have eu2:(A.stepOn.setFile x fun y=>{ y with b:=y.b++bs }).used=A.used+bl:=by rw [eu,hl]; rfl
         unfold cL;rw [eu2];exact H9.ordT 4 [1,2,0,3]
 · refine ⟨none,none,(e:Int),rfl,?_⟩;rw [bo e0,ab];unfold AF.FS.append;rw [he];exact ⟨rfl,bu q hq H1⟩
theorem rE {dir name:ByteArray} (W:A.WF) (hs:A.steps<1099511627776) (hd:dir.size<4611686018427387904) (hn:name.size<4611686018427387904) (H:aD (co b A::F) h) :
  aC prog 68 [aI b,.string dir,.string name] h fun v h'=>v=.int .i64 ((A.sync dir name).2:Int)∧aD (co b (A.sync dir name).1::F) h':=by
 obtain ⟨q,hq,H0⟩:=dl H
 apply HR.ap
 unfold Mz
 refine (mD W hq H0 hd hn).mono ?_
 rintro v h1 ⟨H1,⟨i,x,d,y,fb,xb,he,hdi,hfi,hy,hxb,rfl⟩ | ⟨e,he,e0,rfl⟩⟩
 · refine ⟨_,some ⟨xb,0,none⟩,0,rfl,?_⟩;rw [show ((0:Int)==0)=true from rfl,ab];have e:A.sync dir name=A.step fun g=>g.setFile x fun y=>{ y with safe:=y.b.length }:=by
    unfold AF.FS.sync;rw [he]
   rw [e];refine (j9 W hs H1).mono ?_;rintro v h2 (⟨h0,rfl,H2⟩ | ⟨h0,rfl,H2⟩)
   · rw [aJ,show ((60:Int)==0)=false from rfl,aa];unfold AF.FS.step;rw [al h0];exact ⟨rfl,bu (A:={ A with off:=true }) q hq H2⟩
   · rw [aJ,show ((0:Int)==0)=true from rfl,ab];simp only [aY,aV];unfold AF.FS.step;rw [ak h0];obtain ⟨a,c,H3⟩:=lO (H2.mv 2) hy hxb;refine gJ (v:=.slice a y.b.length c) H3.get rfl ?_;rw [aF];refine bQ (b:=xb) (i:=1) (c':=#[.slice a y.b.length c,.int .i64 (y.b.length:Int)]) H3 (by show 1<2; decide) rfl fun h3 H4=>?_;refine ⟨rfl,bu q (ra (A:=A.stepOn) hq x _) ?_⟩;have H5:=oh (y:=⟨y.b,y.b.length⟩) hy hxb H4;have e3:A.files.set x ⟨y.b,y.b.length⟩=(A.stepOn.setFile x fun y=>{ y with safe:=y.b.length }).files:=(dw (l:=A.files) (fun y:AF.dy=>{ y with safe:=y.b.length }) hy).symm;rw [e3] at H5;have eu2:(A.stepOn.setFile x fun y=>{ y with safe:=y.b.length }).used=A.stepOn.used:=zh W.stepOn fun y=>rfl;unfold cL;rw [eu2];exact H5.ordT 4 [1,2,0,3]
 · refine ⟨none,none,(e:Int),rfl,?_⟩;rw [om e0,aa,aa];unfold AF.FS.sync;rw [he];exact ⟨rfl,bu q hq H1⟩
theorem l7 {dir:ByteArray} (W:A.WF) (hs:A.steps<1099511627776) (hd:dir.size<4611686018427387904) (H:aD (co b A::F) h) :
  aC prog 69 [aI b,.string dir] h fun v h'=>v=.int .i64 ((A.syncDir dir).2:Int)∧aD (co b (A.syncDir dir).1::F) h':=by
 obtain ⟨q,hq,H1⟩:=dl H
 apply HQ.ap
 unfold My
 refine (hY (ss:=[]) (a:=none) (c:=0) W hq H1 rfl rfl (show 0<1000 by omega) hd (by simp)).mono ?_
 rintro v h1 ⟨rfl,hcase⟩
 rcases hcase with ⟨i,d,fb,he,hdi,hfi,rfl⟩ | ⟨e,he,hne,rfl⟩
 · refine ⟨some ⟨fb,0,none⟩,0,rfl,?_⟩;rw [show ((0:Int)==0)=true from rfl,ab];have e:A.syncDir dir=A.step fun g=>g.setDir i fun d=>{ d with base:=d.now,pend:=[] }:=by
    unfold AF.FS.syncDir;rw [he]
   rw [e];refine (j9 W hs H1).mono ?_;rintro v h2 (⟨h0,rfl,H2⟩ | ⟨h0,rfl,H2⟩)
   · rw [aJ,show ((60:Int)==0)=false from rfl,aa];unfold AF.FS.step;rw [al h0];exact ⟨rfl,bu (A:={ A with off:=true }) q hq H2⟩
   · rw [aJ,show ((0:Int)==0)=true from rfl,ab];simp only [aY,aV];unfold AF.FS.step;rw [ak h0];obtain ⟨nb,bb,a,c,H3⟩:=jN (H2.mv 3) hdi hfi;refine gJ (v:=.map (some nb)) H3.get rfl ?_;rw [bY];obtain ⟨m2,hp2,H4⟩:=fC (H3.mv 1);refine (rK H4).mono ?_;rintro v h3 ⟨cb,rfl,H5⟩;rw [bY];have H6:aD (pt fb (mJ nb bb a d.pend.length c)::bF aU cb m2::bF aU nb m2::nu q.xbs q.fbs A.dirs i::cL b A.stepOn q.md::bF aU q.md q.m::cj q.xbs A.files::F) h3:=H5.ordT 9 [2,0,1,5,6,7,8];refine bQ (b:=fb) (i:=1) (c':=#[.map (some nb),.map (some cb),.slice a d.pend.length c]) H6 (by show 1<3; decide) rfl fun h4 H7=>?_;refine bQ (b:=fb) (i:=2) (c':=#[.map (some nb),.map (some cb),.slice none 0 0]) H7 (by show 2<3; decide) rfl fun h5 H8=>?_;have H9:=dv hp2 (H8.mv 1);have H10:=dv hp2 (H9.mv 2);have H11:=nV (nh q.xbs) 112 H10;have H12:aD (dp q.xbs q.fbs (A.dirs.set i { d with base:=d.now,pend:=[] })::cL b A.stepOn q.md::bF aU q.md q.m::cj q.xbs A.files::F) h5:=
      nt (d:={ d with base:=d.now,pend:=[] }) (a:=none) (c:=0) hdi hfi (H11.ordT 5 [3,1,2,0,4])
     have e3:A.dirs.set i { d with base:=d.now,pend:=[] }=(A.stepOn.setDir i fun d=>{ d with base:=d.now,pend:=[] }).dirs:=(dw (l:=A.dirs) (fun d:AF.cG=>{ d with base:=d.now,pend:=[] }) hdi).symm;rw [e3] at H12;have eu:(A.stepOn.setDir i fun d=>{ d with base:=d.now,pend:=[] }).used=A.stepOn.used:=by
      have:(A.stepOn.setDir i fun d=>{ d with base:=d.now,pend:=[] }).idx=A.stepOn.idx:=by
       unfold AF.FS.idx;rw [List.flatMap_def,List.flatMap_def];congr 1;apply List.ext_getElem?;intro j;show ((A.dirs.modify i _).map _)[j]? = (A.dirs.map _)[j]?;rw [getElem?_map,getElem?_map,ii]
       cases A.dirs[j]? with
       | none=>rfl
       | some d'=>by_cases hij:i=j <;> simp [hij]
      unfold AF.FS.used;rw [this]
      rfl
     refine ⟨rfl,bu q (q9 (A:=A.stepOn) hq (kR fun d=>rfl) rfl) ?_⟩;unfold cL;rw [eu];exact H12.ordT 4 [1,2,3,0]
 · refine ⟨none,(e:Int),rfl,?_⟩;have e0:e≠0:=by omega
   rw [om e0,aa,aa];unfold AF.FS.syncDir;rw [he];exact ⟨rfl,bu q hq H1⟩
end
theorem Ma {F:List aE} {h:Heap} {b0:Nat} {e:TypeId} {cs:Array Value} {xs:List Value} (H:aD (pt b0 (.cells cs e (0,0))::F) h) (hx:cs.toList=xs):dF h (some ⟨b0,0,none⟩) xs:=by
 intro j u hv
 rw [dU H.get,← hv,← hx,Array.getElem?_toList]
theorem qu {l:List ByteArray} (h:l.Pairwise fun a b=>AF.jn a b=true):iQ l=l:=by
 have tr:∀ x y z:List UInt8,decide (x≤y)=true→decide (y≤z)=true→decide (x≤z)=true:=fun x y z h1 h2=>by
  simp only [decide_eq_true_eq] at h1 h2 ⊢;exact List.le_trans h1 h2
 have to:∀ x y:List UInt8,(decide (x≤y)||decide (y≤x))=true:=fun x y=>by
  simp only [Bool.or_eq_true,decide_eq_true_eq];exact List.le_total x y
 have e:(l.map fun s:ByteArray=>s.data.toList).mergeSort (fun x y=>decide (x≤y))=l.map fun s:ByteArray=>s.data.toList:=by
  refine List.Perm.eq_of_pairwise (le:=fun x y=>decide (x≤y)=true) ?_ (pairwise_mergeSort tr to _) ?_ (mergeSort_perm _ _)
  · intro x y _ _ h1 h2;simp only [decide_eq_true_eq] at h1 h2;exact le_antisymm h1 h2
  · rw [pairwise_map];refine h.imp fun {a b} hab=>?_;rw [AF.mi] at hab;simp only [decide_eq_true_eq];exact List.le_of_lt hab
 unfold iQ
 rw [e,map_map]
 conv=>rhs; rw [← List.map_id l]
 exact map_congr_left fun s _=>by cases s; rfl
section
variable {b:Nat} {A:AF.FS} {q:tz} {F:List aE} {h:Heap}
theorem rD {dir k k2:ByteArray} (W:A.WF) (hs:A.steps<1099511627776) (hd:dir.size<4611686018427387904) (hn:k.size<4611686018427387904) (hn2:k2.size<4611686018427387904) (H:aD (co b A::F) h) :
  aC prog 70 [aI b,.string dir,.string k,.string k2] h fun v h'=>v=.int .i64 ((A.rename dir k k2).2:Int)∧aD (co b (A.rename dir k k2).1::F) h':=by
 obtain ⟨q,hq,H0⟩:=dl H
 apply HO.ap
 unfold Mx
 refine aQ H0 fun b0 h1 H1=>aQ H1 fun b1 h2 H2=>?_
 refine gJ (v:=.string k) (H2.mv 1).get rfl ?_
 rw [aW]
 refine gJ (v:=.string k2) H2.get rfl ?_
 rw [aW]
 refine aQ H2 fun b2 h3 H3=>?_
 have H4:aD (zR b A q (pt b0 (.cells #[.string k] 9 (0,0))::pt b1 (.cells #[.string k2] 9 (0,0))::F)) h3:=H3.ordT 7 [3,4,5,6,2,1]
 refine (hY (ss:=[k,k2]) W hq H4 (Ma H3 rfl) rfl (show 2<1000 by omega) hd (fun s hs=>by simp at hs; rcases hs with rfl | rfl; exact hn; exact hn2)).mono ?_
 rintro v h4 ⟨rfl,hcase⟩
 have Hd:aD (zR b A q F) h4:=(((H4.mv 5).drop).mv 4).drop
 rcases hcase with ⟨i,d,fb,he,hdi,hfi,rfl⟩ | ⟨e,he,hne,rfl⟩
 · have w:=W.each d (ai hdi);obtain ⟨nb,bb,a,c,es,hfb,hes,hsz,hlk⟩:=lT (H4.mv 3) hdi hfi w.ok.up;obtain ⟨f,hf,hl⟩:=hlk k;refine ⟨some ⟨fb,0,none⟩,0,rfl,?_⟩;rw [show ((0:Int)!=0)=false from rfl,aa];simp only [aY,aV];have rd:∀ K:Value→Prop,K (.map (some nb))→Ld h4 ⟨fb,0,none⟩ K:=fun K hK=>⟨_,by rw [bj hfb]; rfl,hK⟩
   refine rd _ ?_;rw [bY];refine gJ (v:=.string k) (H4.mv 4).get rfl ?_;rw [aW];refine ⟨es,hes,f,hf,lg hl ?_⟩;have hD:=AF.jz hdi
   cases ho:AF.of d.now k with
   | none=>
     show bif (true:Bool) then _ else _
     rw [ab];have e:A.rename dir k k2=(A,62):=by
      unfold AF.FS.rename;rw [he];simp only [hD,ho,Option.isNone_none,if_true]
     rw [e];exact ⟨rfl,bu q hq Hd⟩
   | some x=>
     show bif (false:Bool) then _ else _
     rw [aa];have e:A.rename dir k k2=A.step fun g=>g.did i (.rename k k2):=by
      unfold AF.FS.rename;rw [he];simp only [hD,ho,Option.isNone_some,Bool.false_eq_true,if_false]
     rw [e];obtain ⟨_,_,hr,_,_⟩:=AF.dD he;have ho2:AF.of d.now k≠none:=by rw [ho]; exact fun e=>by cases e
     have K1:=((H4.mv 4).freeze.mv 5).freeze;have K2:aD (nh q.xbs (.rename k k2) (.func (.func 128) #[] #[aI b0,aI b1])::zR b A q F) h4:=by
      refine bg.2 ⟨(b0,b1),aD.shut (m:=[iJ ((Value.func (.func 128) #[] #[aI b0,aI b1])=.func (.func 128) #[] #[aI b0,aI b1]),ro b0 (.cells #[.string k] 9 (0,0)),ro b1 (.cells #[.string k2] 9 (0,0))]) ?_⟩;exact bh.2 ⟨rfl,K1.mv 1⟩
     refine (pv W (AF.sy W hdi (hr k (by simp)) (hr k2 (by simp)) ho2) hq hdi hfi (AF.pB (hr k (by simp)) (hr k2 (by simp)) ho2) hs (K2.bk 4)).mono ?_;rintro v h5 ⟨rfl,H5⟩;rw [aJ];refine ⟨rfl,bu q ?_ H5⟩;unfold AF.FS.step;split
     · exact hq
     · exact qe (A:=A.stepOn) hq i _
 · refine ⟨none,(e:Int),rfl,?_⟩;have e0:e≠0:=by omega
   rw [bo e0,ab];unfold AF.FS.rename;rw [he];exact ⟨rfl,bu q hq Hd⟩
theorem l5 {dir k:ByteArray} (W:A.WF) (hs:A.steps<1099511627776) (hd:dir.size<4611686018427387904) (hn:k.size<4611686018427387904) (H:aD (co b A::F) h) :
  aC prog 71 [aI b,.string dir,.string k] h fun v h'=>v=.int .i64 ((A.remove dir k).2:Int)∧aD (co b (A.remove dir k).1::F) h':=by
 obtain ⟨q,hq,H0⟩:=dl H
 apply HN.ap
 unfold Mw
 refine aQ H0 fun b0 h1 H1=>?_
 refine gJ (v:=.string k) H1.get rfl ?_
 rw [aW]
 refine (mD W hq (H1.bk 4) hd hn).mono ?_
 rintro v h2 ⟨H2,⟨i,x,d,y,fb,xb,he,hdi,hfi,hy,hxb,rfl⟩ | ⟨e,he,e0,rfl⟩⟩
 · refine ⟨some ⟨fb,0,none⟩,_,0,rfl,?_⟩;rw [show ((0:Int)!=0)=false from rfl,aa];have e:A.remove dir k=A.step fun g=>g.did i (.remove k):=by
    unfold AF.FS.remove;rw [he]
   rw [e];obtain ⟨hrd,_⟩:=AF.lQ he;obtain ⟨_,_,hr,_,_⟩:=AF.dD hrd;have K2:aD (nh q.xbs (.remove k) (.func (.func 129) #[] #[aI b0])::zR b A q F) h2:=by
    refine bg.2 ⟨b0,aD.shut (m:=[iJ ((Value.func (.func 129) #[] #[aI b0])=.func (.func 129) #[] #[aI b0]),ro b0 (.cells #[.string k] 9 (0,0))]) ?_⟩;exact bh.2 ⟨rfl,(H2.mv 4).freeze⟩
   refine (pv W (AF.sA W hdi (hr k (by simp))) hq hdi hfi (hr k (by simp)) hs (K2.bk 4)).mono ?_;rintro v h5 ⟨rfl,H5⟩;rw [aJ];refine ⟨rfl,bu q ?_ H5⟩;unfold AF.FS.step;split
   · exact hq
   · exact qe (A:=A.stepOn) hq i _
 · refine ⟨none,none,(e:Int),rfl,?_⟩;rw [bo e0,ab];unfold AF.FS.remove;rw [he];exact ⟨rfl,bu q hq (H2.mv 4).drop⟩
theorem tO {a:Option Addr} {l c:Nat} {xs:List Nat} (hl:l≤140737488355328) (H:aD (aL 5 1 a l c (xs.map nv)::F) h) :
  aC prog 131 [.slice a l c] h fun v h'=>∃ (a2:Option Addr) (c2:Nat),v=.slice a2 l c2∧aD (aL 5 1 a2 l c2 (xs.map nv)::aL 5 1 a l c (xs.map nv)::F) h':=by
 apply FJ.ap
 unfold Lj
 cases a with
 | none=>
   obtain ⟨hxl,⟨_,rfl,rfl,hx,H1⟩ | ⟨_,_,_,e,_⟩⟩:=dP H
   · refine ⟨none,0,rfl,?_⟩;rw [hx];exact bE 5 1 (bE 5 1 H1)
   · cases e
 | some a=>
   rw [show (some a).isNone=false from rfl,aa];have hlen:=fK H;refine aQ H fun b0 h1 H1=>?_;have H2:aD (aL 5 1 (some ⟨b0,0,none⟩) 0 0 (([]:List Nat).map nv)::aL 5 1 (some a) l c (xs.map nv)::F) h1:=fB H1 (fun i hi=>by simp at hi) (av _) (au _) rfl rfl;refine pj (ys:=xs) Jx Gg JZ H2 (rT (aH (H2.mv 1)) (by have:=hlen.1; simpa using this)) (by omega) fun a2 c2 h2 _ H3=>?_;rw [aF];rw [Nat.zero_add,nil_append] at H3;exact ⟨a2,c2,by rw [Nat.zero_add],H3⟩
theorem wG {dir name:ByteArray} (W:A.WF) (hd:dir.size<4611686018427387904) (hn:name.size<4611686018427387904) (H:aD (co b A::F) h) :
  aC prog 92 [aI b,.string dir,.string name] h fun v h'=>
   (∃ (bs:List Nat) (a:Option Addr) (c:Nat),A.read dir name=.ok bs∧B8 bs∧bs.length≤16777216∧v=.tuple #[.slice a bs.length c,.int .i64 0]∧aD (aL 5 1 a bs.length c (bs.map nv)::co b A::F) h')∨
   (∃ e:Nat,A.read dir name=.error e∧e≠0∧v=.tuple #[.slice none 0 0,.int .i64 (e:Int)]∧aD (co b A::F) h'):=by
 obtain ⟨q,hq,H0⟩:=dl H
 apply HD.ap
 unfold Mr
 refine (mD W hq H0 hd hn).mono ?_
 rintro v h1 ⟨H1,⟨i,x,d,y,fb,xb,he,hdi,hfi,hy,hxb,rfl⟩ | ⟨e,he,e0,rfl⟩⟩
 · refine ⟨_,some ⟨xb,0,none⟩,0,rfl,?_⟩;rw [show ((0:Int)!=0)=false from rfl,aa];simp only [aY,aV];have wy:=W.files y (ai hy);obtain ⟨a,c,H3⟩:=lO (H1.mv 2) hy hxb;refine gJ (v:=.slice a y.b.length c) H3.get rfl ?_;rw [aF];refine (tO (by omega) (H3.mv 1)).mono ?_;rintro v h2 ⟨a2,c2,rfl,H4⟩;rw [aF];refine .inl ⟨y.b,a2,c2,?_,wy.2.2,wy.2.1,rfl,?_⟩
   · unfold AF.FS.read;rw [he];simp only [AF.rA hy]
   · -- copy,aL,pt xb,rh,raw,bF,dirs
     have H5:=oh hy hxb (H4.ordT 7 [2,1,3,0,4,5,6]);rw [ke hy] at H5;have H6:aD (zR b A q (aL 5 1 a2 y.b.length c2 (y.b.map nv)::F)) h2:=H5.ordT 5 [2,3,0,4,1];exact (bu q hq H6).mv 1
 · refine ⟨none,none,(e:Int),rfl,?_⟩;rw [bo e0,ab];refine .inr ⟨e,?_,e0,rfl,bu q hq H1⟩;unfold AF.FS.read;rw [he]
theorem vj {l:AF.bG} (h:AF.Up l):(l.map (·.1)).Pairwise fun a b=>AF.jn a b=true:=List.pairwise_map.2 h
theorem lZ {dir:ByteArray} (W:A.WF) (hd:dir.size<4611686018427387904) (H:aD (co b A::F) h) :
  aC prog 90 [aI b,.string dir] h fun v h'=>
   (∃ (ks:List ByteArray) (a:Option Addr) (c:Nat),A.list dir=.ok ks∧(∀ k∈ks,AF.right k=true)∧ks.length≤4096∧v=.tuple #[.slice a ks.length c,.int .i64 0]∧aD (aL 9 1 a ks.length c (ks.map Value.string)::co b A::F) h')∨
   (∃ e:Nat,A.list dir=.error e∧e≠0∧v=.tuple #[.slice none 0 0,.int .i64 (e:Int)]∧aD (co b A::F) h'):=by
 obtain ⟨q,hq,H1⟩:=dl H
 apply HF.ap
 unfold Ms
 refine (hY (ss:=[]) (a:=none) (c:=0) W hq H1 rfl rfl (show 0<1000 by omega) hd (by simp)).mono ?_
 rintro v h1 ⟨rfl,hcase⟩
 rcases hcase with ⟨i,d,fb,he,hdi,hfi,rfl⟩ | ⟨e,he,hne,rfl⟩
 · refine ⟨some ⟨fb,0,none⟩,0,rfl,?_⟩;rw [show ((0:Int)!=0)=false from rfl,aa];simp only [aY,aV];have w:=W.each d (ai hdi);obtain ⟨nb,bb,a,c,H3⟩:=jN (H1.mv 3) hdi hfi;refine gJ (v:=.map (some nb)) H3.get rfl ?_;rw [bY];refine (wR H3).mono ?_;rintro v h2 ⟨cb,rfl,H4⟩;refine ⟨_,rfl,?_⟩;obtain ⟨m2,hp2,H5⟩:=fC (H4.mv 2);have hml:m2.length=d.now.length:=by rw [hp2.length_eq,an]
   have hfew:=w.ok.few;refine (wS (H5.mv 1) (by omega)).mono ?_;rintro v h3 ⟨a3,c3,rfl,H6⟩;rw [aF];have ek:iQ (m2.map (·.1))=d.now.map (·.1):=by
    rw [gC (hp2.map (·.1)),rm,qu (vj w.ok.up)]
   rw [ek] at H6;refine .inl ⟨d.now.map (·.1),a3,c3,?_,?_,by rw [an]; exact hfew,by rw [an,hml],?_⟩
   · unfold AF.FS.list;rw [he];simp only [AF.jz hdi]
   · intro k hk;obtain ⟨p,hp,rfl⟩:=List.mem_map.1 hk;exact (w.ok.each p hp).2
   · rw [an,← hml];have H7:=dv hp2 (H6.mv 1);have H8:=nt (d:=d) hdi hfi (H7.ordT 9 [2,0,3,4,5,1,6,7,8]);rw [ke hdi] at H8;have H9:aD (zR b A q (aL 9 1 a3 m2.length c3 ((d.now.map (·.1)).map Value.string)::F)) h3:=H8.ordT 5 [2,3,4,0,1];exact (bu q hq H9).mv 1
 · refine ⟨none,(e:Int),rfl,?_⟩;have e0:e≠0:=by omega
   rw [bo e0,ab];refine .inr ⟨e,?_,e0,rfl,bu q hq H1⟩;unfold AF.FS.list;rw [he]
theorem uU {room used steps fuse:Int} {off:Bool} (W:A.WF) (hq:mT A q) (H:aD (jI b room used steps fuse off q.md::bF aU q.md q.m::F) h) :
  aC prog 49 [aI b] h fun v h'=>∃ (a:Option Addr) (c:Nat),v=.slice a A.dirs.length c∧aD (aL 9 1 a A.dirs.length c ((A.dirs.map (·.name)).map Value.string)::jI b room used steps fuse off q.md::bF aU q.md q.m::F) h':=by
 apply Il.ap
 unfold MQ
 rw [show (some (⟨b,0,none⟩:Addr)).isNone=false from rfl,aa]
 simp only [aY]
 refine gA (v:=.map (some q.md)) H rfl ?_
 rw [bY]
 refine (AO H).mono ?_
 rintro v h2 ⟨cb,rfl,H4⟩
 refine ⟨_,rfl,?_⟩
 have hml:q.m.length=A.dirs.length:=by have:=(kB hq).length_eq; simpa using this
 have hfew:=W.few
 refine (Aj (H4.ordT 3 [0,2,1]) (by omega)).mono ?_
 rintro v h3 ⟨a3,c3,rfl,H6⟩
 rw [aF]
 have ek:iQ (q.m.map (·.1))=A.dirs.map (·.name):=by
  rw [gC (kB hq),qu (List.pairwise_map.2 W.up)]
 rw [ek,hml] at H6
 exact ⟨a3,c3,by rw [hml],H6.ordT 3 [0,2,1]⟩
theorem CU (W:A.WF) (H:aD (co b A::F) h) :
  aC prog 49 [aI b] h fun v h'=>∃ (a:Option Addr) (c:Nat),v=.slice a A.dirs.length c∧aD (aL 9 1 a A.dirs.length c ((A.dirs.map (·.name)).map Value.string)::co b A::F) h':=by
 obtain ⟨q,hq,H1⟩:=dl H
 refine (uU W hq H1).mono ?_
 rintro v h1 ⟨a,c,rfl,H2⟩
 have H3:aD (zR b A q (aL 9 1 a A.dirs.length c ((A.dirs.map (·.name)).map Value.string)::F)) h1:=H2.ordT 5 [1,2,3,4,0]
 exact ⟨a,c,rfl,(bu q hq H3).mv 1⟩
theorem CF (H:aD (co b A::F) h):aC prog 87 [aI b] h fun v h'=>v=.int .i64 (A.used:Int)∧h'=h:=by
 obtain ⟨q,hq,H1⟩:=dl H
 apply HK.ap
 unfold Mu
 rw [show (some (⟨b,0,none⟩:Addr)).isNone=false from rfl,aa]
 simp only [aY]
 refine gA (v:=.int .i64 (A.used:Int)) H1 rfl ?_
 rw [aJ]
 exact ⟨rfl,by trivial⟩
theorem Ds (H:aD (co b A::F) h):aC prog 14 [aI b] h fun v h'=>v=.int .i64 (A.steps:Int)∧h'=h:=by
 obtain ⟨q,hq,H1⟩:=dl H
 apply I5.ap
 unfold Nq
 rw [show (some (⟨b,0,none⟩:Addr)).isNone=false from rfl,aa]
 simp only [aY]
 refine gA (v:=.int .i64 (A.steps:Int)) H1 rfl ?_
 rw [aJ]
 exact ⟨rfl,by trivial⟩
theorem CE (H:aD (co b A::F) h):aC prog 89 [aI b] h fun v h'=>v=.bool (!A.off)∧h'=h:=by
 obtain ⟨q,hq,H1⟩:=dl H
 apply HG.ap
 unfold Mt
 rw [show (some (⟨b,0,none⟩:Addr)).isNone=false from rfl,aA,ab]
 simp only [aY]
 refine gA (v:=.bool A.off) H1 rfl ?_
 rw [cd]
 exact ⟨rfl,by trivial⟩
theorem wY {n:Int} (H:aD (co b A::F) h):aC prog 19 [aI b,.int .i64 n] h fun v h'=>v=.int .i64 ((A.setFuse n).2:Int)∧aD (co b (A.setFuse n).1::F) h':=by
 obtain ⟨q,hq,H1⟩:=dl H
 apply IL.ap
 unfold Nl AF.FS.setFuse
 rw [show (some (⟨b,0,none⟩:Addr)).isNone=false from rfl,aa]
 by_cases hn:n<0
 · rw [af hn,ab,al hn];exact ⟨rfl,H⟩
 · rw [ae hn,aa,ak hn];simp only [aY,aV];refine bQ (b:=b) (i:=3) (c':=#[.int .i64 (A.room:Int),.int .i64 (A.used:Int),.int .i64 (A.steps:Int),.int .i64 n,.bool A.off,.map (some q.md)]) H1 (by show 3<6; decide) rfl fun h1 H2=>?_;refine ⟨rfl,bu (A:={ A with fuse:=some n.toNat }) q hq ?_⟩;have e:eZ (some n.toNat)=n:=by show ((n.toNat:Nat):Int)=n; omega
   show aD (jI b (A.room:Int) (A.used:Int) (A.steps:Int) (eZ (some n.toNat)) A.off q.md::_) h1;rw [e];exact H2
end
structure uR (F:List aE) (ps:List Int) (a:Option Addr) (l c:Nat):Prop where
 len:ps.length=l
 cap:l≤c
 read:∀ h',aD F h'→dF h' a (ps.map iv)
abbrev mW (b0:Nat) (a:Option Addr) (l c:Nat):aE:=pt b0 (.cells #[.slice a l c] 46 (0,0))
section
variable {b:Nat} {A:AF.FS} {q:tz} {F G:List aE} {h:Heap}
theorem wT {b0 n:Nat} {ps:List Int} {a:Option Addr} {l c:Nat} (hn:n<4611686018427387904) (hp:uR F ps a l c) (hF:aD F h) (H:aD (mW b0 a l c::G) h) :
  aC prog 48 [.int .i64 (n:Int),aI b0] h fun v h'=>v=.int .i64 ((AF.pick ps n).1:Int)∧∃ a2 l2 c2,uR F (AF.pick ps n).2 a2 l2 c2∧aD (mW b0 a2 l2 c2::G) h':=by
 apply Im.ap
 unfold MR
 refine gJ (v:=.slice a l c) H.get rfl ?_
 rw [aF]
 have hl:=hp.len
 cases ps with
 | nil=>
   have:l=0:=hl.symm;subst this;rw [show (((0:Nat):Int)==0)=true from rfl,ab];exact ⟨rfl,a,0,c,hp,H⟩
 | cons p ps=>
   rw [ao] at hl;rw [om (show l≠0 by omega),aa];refine gJ (v:=.slice a l c) H.get rfl ?_;rw [aF];have hr:=hp.read h hF;refine cf (i:=0) (v:=iv p) hr (by rw [an,ao]; exact hl) rfl fun ba hba hc=>⟨_,hc,?_⟩
   show DI .i64 (.int .i64 p) _;rw [aJ];refine gJ (v:=.slice a l c) H.get rfl ?_;rw [aF];have hcap:=hp.cap;refine ir (lo:=1) (hi:=l) (mx:=c) (by omega) hcap (av _) ?_;rw [aV];refine ud H fun h1 H1=>?_;have w1:wrap .i64 ((n:Int)+1)=((n+1:Nat):Int):=aK (by omega);have w2:wrap .u64 ((n+1:Nat):Int)=((n+1:Nat):Int):=IntWalk.u64_in _ (by omega);rw [w1,w2];refine ⟨by omega,?_,jB a 1 c 1,l - 1,c - 1,⟨by show ps.length=l - 1; omega,by omega,fun h' hh=>?_⟩,H1⟩
   · have hu:∃ m:Nat,wrap .u64 p=(m:Int):=by
      rw [IntKind.wrap_u64];exact ⟨(p%18446744073709551616).toNat,by omega⟩
     obtain ⟨m,hm⟩:=hu;have hlt:m%(n+1)<n+1:=Nat.mod_lt m (Nat.succ_pos n);rw [hm,jc,dt (by omega)];show Value.int .i64 _=.int .i64 (((wrap .u64 p).toNat%(n+1):Nat):Int);rw [hm,Int.toNat_natCast]
   · have:=(hp.read h' hh).sub 1 (l - 1) c (by omega);have e:((List.map iv (p::ps)).drop 1).take (l - 1)=ps.map iv:=by
      rw [map_cons,List.drop_one,List.tail_cons,ar (by rw [an]; omega)]
     rw [e] at this;exact this
theorem Gm (W:A.WF) (hq:mT A q) {i:Nat} {d:AF.cG} {fb:Nat} (hd:A.dirs[i]? = some d) (hf:q.fbs[i]? = some fb):kp q.m d.name=some (aI fb):=
 uw (nq W hq) ((kA hq).2 ⟨i,d,fb,hd,hf,rfl,rfl⟩)
theorem Gq {mb fb:Nat} {m:List (ByteArray×Value)} {k:ByteArray} {K:Option Addr→Prop} (H:aD (bF aU mb m::F) h) (hk:kp m k=some (aI fb)) (hK:K (some ⟨fb,0,none⟩)) :
  ∃ es:Array MapEntry,dJ h (some mb) es∧∃ f,Instr.findNow .string (.string k) es.toList 0=some f∧DP ((Option.map (fun x=>x.2) f).getD (.pointer none)) K:=by
 obtain ⟨es,clock,hm,hes⟩:=fD H
 obtain ⟨f,hf,hl,_⟩:=hm.find k
 refine ⟨es,hes,f,hf,?_⟩
 rw [hl,hk]
 exact ⟨_,rfl,hK⟩
theorem oJ (a:Option Addr) (mx sz:Nat):jB a 0 mx sz=a:=by
 unfold jB
 split
 · rfl
 · cases a with
   | none=>rfl
   | some a=>simp
theorem BK {e l c k:Nat} {a:Option Addr} {xs:List Value} (hk:k≤l) (H:aD (aL e 1 a l c xs::F) h):aD (aL e 1 a k c (xs.take k)::F) h:=by
 obtain ⟨hl,⟨rfl,rfl,rfl,rfl,H2⟩ | ⟨b',cells,fr,rfl,hlc,hcm,hcs,hfr,ht,H2⟩⟩:=dP H
 · have:k=0:=by omega
   subst this;exact bE e 1 H2
 · refine fB H2 hfr (by omega) hcm hcs ?_;rw [← ht,List.take_take,Nat.min_eq_left (by omega),Nat.mul_one]
theorem kC:∀ (ds es:List AF.cG) (l:List Int),AF.bX (ds++es) l=((AF.bX ds l).1++(AF.bX es (AF.bX ds l).2).1,(AF.bX es (AF.bX ds l).2).2)
 | [],es,l=>rfl
 | d::ds,es,l=>by
   rw [cons_append];simp only [AF.bX];rw [kC ds es]
   rfl
theorem jQ:∀ (xs ys:List Nat) (fs:List AF.dy) (l:List Int),AF.cE (xs++ys) fs l=AF.cE ys (AF.cE xs fs l).1 (AF.cE xs fs l).2
 | [],ys,fs,l=>rfl
 | x::xs,ys,fs,l=>by
   rw [cons_append];simp only [AF.cE];rw [jQ xs ys]
theorem lk:∀ (ds:List AF.cG) (l:List Int),(AF.bX ds l).1.map (·.name)=ds.map (·.name)
 | [],l=>rfl
 | d::ds,l=>by simp only [AF.bX,map_cons]; rw [lk ds]
def xS (d:AF.cG) (k:Nat):AF.cG:=⟨d.name,AF.ib d.base (d.pend.take k),AF.ib d.base (d.pend.take k),[]⟩
def fG (A:AF.FS) (ps:List Int) (i:Nat):List AF.cG:=(AF.bX (A.dirs.take i) ps).1++A.dirs.drop i
def gy (A:AF.FS) (ps:List Int) (i:Nat):List Int:=(AF.bX (A.dirs.take i) ps).2
theorem nr {ps:List Int} {i:Nat} {d:AF.cG} (hd:A.dirs[i]? = some d):(fG A ps i)[i]? = some d:=by
 have hi:=(aj.1 hd).1
 unfold fG
 rw [List.getElem?_append_right (by rw [AF.dx,aq]; omega),AF.dx,aq,getElem?_drop,← hd]
 congr 1
 omega
theorem pO {ps:List Int} {i:Nat} {d:AF.cG} (hd:A.dirs[i]? = some d) :
  fG A ps (i+1)=(fG A ps i).set i (xS d (AF.pick (gy A ps i) d.pend.length).1)∧gy A ps (i+1)=(AF.pick (gy A ps i) d.pend.length).2:=by
 have hi:=(aj.1 hd).1
 have ht:A.dirs.take (i+1)=A.dirs.take i++[d]:=by rw [ax,hd]; rfl
 unfold fG gy
 rw [ht,kC]
 refine ⟨?_,rfl⟩
 have hdr:A.dirs.drop i=d::A.dirs.drop (i+1):=by
  rw [drop_eq_getElem_cons hi];congr 1;rw [ah hi] at hd;exact Option.some.inj hd
 rw [hdr,List.set_append_right _ _ (by rw [AF.dx,aq]; omega),AF.dx,aq,show i - min i A.dirs.length=0 by omega,List.set_cons_zero,append_assoc]
 rfl
end
section
variable {b:Nat} {A:AF.FS} {q:tz} {F:List aE} {h:Heap}
def bL (A:AF.FS) (ps:List Int) (xs:List Nat):List AF.dy×List Int:=AF.cE xs A.files (gy A ps A.dirs.length)
theorem rv (ps:List Int):(A.crash ps).dirs=fG A ps A.dirs.length:=by
 unfold AF.FS.crash fG
 rw [take_length,List.drop_length,append_nil]
theorem iF (ps:List Int):(A.crash ps).files=(bL A ps (A.crash ps).idx).1:=by
 unfold bL gy
 rw [take_length]
 rfl
theorem pQ (ps:List Int):(A.crash ps).dirs.map (·.name)=A.dirs.map (·.name):=lk A.dirs ps
theorem og {ps:List Int} {xs:List Nat} {x:Nat} {y:AF.dy} (hy:(bL A ps xs).1[x]? = some y) :
  bL A ps (xs++[x])=((bL A ps xs).1.set x ⟨y.b.take (y.safe+(AF.pick (bL A ps xs).2 (y.b.length - y.safe)).1),y.safe+(AF.pick (bL A ps xs).2 (y.b.length - y.safe)).1⟩,(AF.pick (bL A ps xs).2 (y.b.length - y.safe)).2):=by
 have hg:(bL A ps xs).1.getD x default=y:=by rw [getD_eq_getElem?_getD,hy]; rfl
 have:bL A ps (xs++[x])=AF.cE [x] (bL A ps xs).1 (bL A ps xs).2:=by unfold bL; rw [jQ]
 rw [this]
 simp only [AF.cE,hg]
theorem rg (W:A.WF) (ps:List Int) (xs:List Nat):∀ y∈(bL A ps xs).1,AF.lY y:=AF.j1 W.files
theorem ge (ps:List Int) (xs:List Nat):(bL A ps xs).1.length=A.files.length:=AF.fU _ _ _
theorem zQ (hq:mT A q) (ps:List Int):mT (A.crash ps) q:=q9 hq (pQ ps) (by rw [iF,ge])
abbrev vI (b:Nat) (A:AF.FS) (q:tz):aE:=cL b A q.md
theorem BC {B:aE} {L:List aE} (H:aD (B::(L++F)) h):aD (B::cr L::F) h:=let ⟨r,hr,hs⟩:=H; ⟨r,fI (fun _ h=>h) (fun _ h=>d9.1 h) hr,hs⟩
theorem D0 {xbs:List Nat} {bb n j:Nat} {l:AF.bG} {os:List AF.Op} {vs:List Value} {o:AF.Op} {v:Value} (hl:vs.length=os.length) (ho:os[j]? = some o) (hv:vs[j]? = some v)
  (H:aD (cC xbs bb l::cr (zipWith (nh xbs) os vs)::F) h) (hk:AF.Ok n l) (hf:AF.mM n l o) :
  cB prog v [.map (some bb)] h fun r h'=>r=.tuple #[]∧aD (cC xbs bb (AF.does l o)::cr (zipWith (nh xbs) os vs)::F) h':=by
 have H2:=iB (H.mv 1) ho hv
 refine (yE (H2.ordT 3 [2,0,1]) hk hf).mono ?_
 rintro r h' ⟨rfl,H3⟩
 exact ⟨rfl,(sR ho hv (H3.ordT 3 [1,2,0])).mv 1⟩
theorem Dc {ps:List Int} {pa:Option Addr} {pl pc:Nat} (W:A.WF) (hp:uR F ps pa pl pc) (hs:A.steps<1099511627776) (H:aD (co b A::F) h) :
  aC prog 20 [aI b,.slice pa pl pc] h fun v h'=>v=.int .i64 0∧aD (co b (A.crash ps)::F) h':=by
 obtain ⟨q,hq,H0⟩:=dl H
 have W2:=W.crash ps
 have hq2:=zQ hq ps
 have hfew:=W.few
 apply IK.ap
 unfold Nk
 refine aQ H0 fun b0 h1 H1=>?_
 rw [show (some (⟨b,0,none⟩:Addr)).isNone=false from rfl,aa]
 refine (uU W hq (H1.bk 4)).mono ?_
 rintro v h2 ⟨na,nc,rfl,H2⟩
 rw [aF]
 refine ⟨fun st hh=>∃ i,st=((i:Nat):Int)∧i≤A.dirs.length∧∃ (a:Option Addr) (l c:Nat),uR F (gy A ps i) a l c∧
   aD (mW b0 a l c::aL 9 1 na A.dirs.length nc ((A.dirs.map (·.name)).map Value.string)::vI b A q::bF aU q.md q.m::cj q.xbs A.files::dp q.xbs q.fbs (fG A ps i)::F) hh,
  fun st _=>((A.dirs.length:Int) - st).toNat,⟨0,rfl,au _,pa,pl,pc,hp,H2.ordT 6 [5,0,1,2,3,4]⟩,?_⟩
 rintro st h3 ⟨i,rfl,hi,a,l,c,hpk,H3⟩
 by_cases hlt:i<A.dirs.length
 · rw [af (show ((i:Int)<(A.dirs.length:Int)) by omega),ab];obtain ⟨d,hdi⟩:∃ d,A.dirs[i]? = some d:=⟨_,ah hlt⟩
   obtain ⟨fb,hfi⟩:=Cc hq hdi;have w:=W.each d (ai hdi);have hpl:=w.pend;have hnm:((A.dirs.map (·.name)).map Value.string)[i]? = some (.string d.name):=by rw [getElem?_map,getElem?_map,hdi]; rfl
   refine cf (v:=.string d.name) (aH (H3.mv 1)) (by rw [an,an]) hnm fun ba hba hc=>⟨_,hc,?_⟩
   show DS (.string d.name) _;rw [aW];simp only [aY,aV];refine gA (b:=b) (v:=.map (some q.md)) (H3.mv 2) rfl ?_;rw [bY];refine Gq (H3.mv 3) (Gm W hq hdi hfi) ?_;simp only [aY,aV];obtain ⟨nb,bb,oa,oc,H4⟩:=jN (H3.mv 5) (nr hdi) hfi;refine gA (b:=fb) (i:=2) (v:=.slice oa d.pend.length oc) H4 rfl ?_;rw [aF];refine gA (b:=fb) (i:=2) (v:=.slice oa d.pend.length oc) H4 rfl ?_;rw [aF];refine (wT (n:=d.pend.length) (by omega) hpk (H4.rest 10) (H4.mv 5)).mono ?_;rintro v h4 ⟨rfl,a2,l2,c2,hpk2,H5⟩;rw [aJ];refine ⟨rfl,rfl,rfl,?_⟩;refine ⟨gA (b:=fb) (i:=2) (v:=.slice oa d.pend.length oc) (H5.mv 1) rfl (by rw [aF]; rfl),rfl,?_⟩;have hple:=AF.nU (gy A ps i) d.pend.length;generalize hk:(AF.pick (gy A ps i) d.pend.length).1=k at hple;have hol:=BL (H5.mv 4);refine ir (lo:=0) (hi:=k) (mx:=oc) (au _) (by omega) (av _) ?_;rw [oJ,Nat.sub_zero];obtain ⟨vs,hvl,H6⟩:=oV (H5.mv 4);have H7:aD (cr (zipWith (nh q.xbs) d.pend vs)::aL 112 1 oa d.pend.length oc vs::mW b0 a2 l2 c2::pt fb (mJ nb bb oa d.pend.length oc)::cC q.xbs nb d.now::cC q.xbs bb d.base::nu q.xbs q.fbs (fG A ps i) i::
    aL 9 1 na A.dirs.length nc ((A.dirs.map (·.name)).map Value.string)::vI b A q::bF aU q.md q.m::cj q.xbs A.files::F) h4:=by
    have K:aD (aL 112 1 oa d.pend.length oc vs::cr (zipWith (nh q.xbs) d.pend vs)::_) h4:=BC H6;exact K.mv 1
   refine ⟨fun st hh=>∃ j,st=((j:Nat):Int)∧j≤k∧aD (cr (zipWith (nh q.xbs) d.pend vs)::aL 112 1 oa d.pend.length oc vs::mW b0 a2 l2 c2::pt fb (mJ nb bb oa d.pend.length oc)::cC q.xbs nb d.now::cC q.xbs bb (AF.ib d.base (d.pend.take j))::nu q.xbs q.fbs (fG A ps i) i::
    aL 9 1 na A.dirs.length nc ((A.dirs.map (·.name)).map Value.string)::vI b A q::bF aU q.md q.m::cj q.xbs A.files::F) hh,
    fun st _=>((k:Int) - st).toNat,⟨0,rfl,au _,H7⟩,?_⟩
   rintro st h5 ⟨j,rfl,hj,H8⟩;by_cases hjk:j<k
   · rw [af (show ((j:Int)<(k:Int)) by omega),ab];obtain ⟨o,ho⟩:∃ o,d.pend[j]? = some o:=⟨_,ah (by omega)⟩
     obtain ⟨v,hv⟩:∃ v,vs[j]? = some v:=⟨_,ah (by omega)⟩
     have hrd:dF h5 oa (vs.take k):=by
      have:=(aH (H8.mv 1)).sub 0 k oc (by omega)
      rwa [oJ,drop_zero] at this
     refine cf (v:=v) hrd (by rw [aq]; omega) (by rw [getElem?_take,al hjk]; exact hv) fun ba2 hba2 hc2=>⟨_,hc2,?_⟩
     refine ⟨v,rfl,?_⟩;refine gA (b:=fb) (i:=1) (v:=.map (some bb)) (H8.mv 3) rfl ?_;rw [bY];obtain ⟨hok,hfit⟩:=w.runs.at j ho;refine (D0 hvl ho hv (H8.ordT 11 [5,0,1,2,3,4,6,7,8,9,10]) hok hfit).mono ?_;rintro r h6 ⟨rfl,H9⟩;refine ⟨rfl,⟨j+1,aK (by omega),by omega,?_⟩,?_⟩
     · have e:AF.ib d.base (d.pend.take (j+1))=AF.does (AF.ib d.base (d.pend.take j)) o:=by
        rw [ax,ho];exact AF.oR _ _ _
       rw [e];exact H9.ordT 11 [1,2,3,4,5,0,6,7,8,9,10]
     · rw [aK (by omega)];show ((k:Int) - ((j+1:Nat):Int)).toNat<((k:Int) - (j:Int)).toNat;omega
   · have ejk:j=k:=by omega
     subst ejk;rw [ae (by omega),aa];refine gA (b:=fb) (i:=1) (v:=.map (some bb)) (H8.mv 3) rfl ?_;rw [bY];obtain ⟨m2,hp2,H9⟩:=fC (H8.mv 5);refine (rK H9).mono ?_;rintro v h6 ⟨cb,rfl,H10⟩;rw [bY];have H11:aD (pt fb (mJ nb bb oa d.pend.length oc)::bF aU cb m2::bF aU bb m2::nu q.xbs q.fbs (fG A ps i) i::mW b0 a2 l2 c2::aL 9 1 na A.dirs.length nc ((A.dirs.map (·.name)).map Value.string)::vI b A q::bF aU q.md q.m::cj q.xbs A.files::F) h6:=
      H10.ordT 12 [5,0,1,7,4,8,9,10,11]
     refine bQ (b:=fb) (i:=0) (c':=#[.map (some cb),.map (some bb),.slice oa d.pend.length oc]) H11 (by show 0<3; decide) rfl fun h7 H12=>?_;refine bQ (b:=fb) (i:=2) (c':=#[.map (some cb),.map (some bb),.slice none 0 0]) H12 (by show 2<3; decide) rfl fun h8 H13=>?_;have H14:=dv hp2 (H13.mv 1);have H15:=dv hp2 (H14.mv 2);have H16:=nV (nh q.xbs) 112 H15;have H17:aD (dp q.xbs q.fbs ((fG A ps i).set i (xS d j))::mW b0 a2 l2 c2::aL 9 1 na A.dirs.length nc ((A.dirs.map (·.name)).map Value.string)::vI b A q::bF aU q.md q.m::cj q.xbs A.files::F) h8:=
      nt (d:=xS d j) (a:=none) (c:=0) (nr hdi) hfi (H16.ordT 5 [3,2,1,0,4])
     obtain ⟨en1,en2⟩:=pO (ps:=ps) hdi;rw [hk] at en1;rw [← en1] at H17;rw [← en2] at hpk2;refine ⟨⟨i+1,aK (by omega),by omega,a2,l2,c2,hpk2,H17.ordT 6 [1,2,3,4,5,0]⟩,?_⟩;rw [aK (by omega)];show ((A.dirs.length:Int) - ((i+1:Nat):Int)).toNat<((A.dirs.length:Int) - (i:Int)).toNat;omega
 · have ei:i=A.dirs.length:=by omega
   subst ei;rw [ae (by omega),aa];rw [← rv] at H3;have hlen2:(A.crash ps).dirs.length=A.dirs.length:=by have:=congrArg List.length (pQ (A:=A) ps); simpa using this
   refine (uU W2 hq2 (H3.ordT 6 [2,3,4,5,0])).mono ?_;rintro v h4 ⟨na2,nc2,rfl,H4⟩;rw [aF];have idxTo:∀ i,List Nat:=fun i=>((A.crash ps).dirs.take i).flatMap fun d=>d.now.map (·.2);refine ⟨fun st hh=>∃ i,st=((i:Nat):Int)∧i≤(A.crash ps).dirs.length∧∃ (a:Option Addr) (l c:Nat),uR F (bL A ps (((A.crash ps).dirs.take i).flatMap fun d=>d.now.map (·.2))).2 a l c∧
    aD (mW b0 a l c::aL 9 1 na2 (A.crash ps).dirs.length nc2 (((A.crash ps).dirs.map (·.name)).map Value.string)::vI b A q::bF aU q.md q.m::cj q.xbs (bL A ps (((A.crash ps).dirs.take i).flatMap fun d=>d.now.map (·.2))).1::dp q.xbs q.fbs (A.crash ps).dirs::F) hh,
    fun st _=>(((A.crash ps).dirs.length:Int) - st).toNat,⟨0,rfl,au _,a,l,c,hpk,H4.ordT 6 [5,0,1,2,3,4]⟩,?_⟩
   rintro st h5 ⟨i,rfl,hi2,a3,l3,c3,hpk3,H5⟩;by_cases hlt2:i<(A.crash ps).dirs.length
   · rw [af (show ((i:Int)<((A.crash ps).dirs.length:Int)) by omega),ab];obtain ⟨d,hdi⟩:∃ d,(A.crash ps).dirs[i]? = some d:=⟨_,ah hlt2⟩
     obtain ⟨fb,hfi⟩:=Cc hq2 hdi;have w:=W2.each d (ai hdi);have hnm:(((A.crash ps).dirs.map (·.name)).map Value.string)[i]? = some (.string d.name):=by rw [getElem?_map,getElem?_map,hdi]; rfl
     refine cf (v:=.string d.name) (aH (H5.mv 1)) (by rw [an,an]) hnm fun ba hba hc=>⟨_,hc,?_⟩
     show DS (.string d.name) _;rw [aW];simp only [aY,aV];refine gA (b:=b) (v:=.map (some q.md)) (H5.mv 2) rfl ?_;rw [bY];refine Gq (H5.mv 3) (Gm W2 hq2 hdi hfi) ?_;simp only [aY,aV];obtain ⟨nb,bb,oa,oc,H6⟩:=jN (H5.mv 5) hdi hfi;refine gJ (v:=.map (some nb)) H6.get rfl ?_;rw [bY];refine (wR H6).mono ?_;rintro v h6 ⟨cb,rfl,H7⟩;refine ⟨_,rfl,?_⟩;obtain ⟨m2,hp2,H8⟩:=fC (H7.mv 2);have hml:m2.length=d.now.length:=by rw [hp2.length_eq,an]
     have hfew2:=w.ok.few;refine (wS (H8.mv 1) (by omega)).mono ?_;rintro v h7 ⟨ka,kc,rfl,H9⟩;rw [aF];have ek:iQ (m2.map (·.1))=d.now.map (·.1):=by
      rw [gC (hp2.map (·.1)),rm,qu (vj w.ok.up)]
     rw [ek,hml] at H9;rw [hml];have H10:=dv hp2 (H9.mv 1);have H11:=nt (d:=d) hdi hfi (H10.ordT 11 [2,0,3,4,5,1,6,7,8,9,10]);rw [ke hdi] at H11;have hdt:((A.crash ps).dirs.take (i+1)).flatMap (fun d:AF.cG=>d.now.map (·.2))=((A.crash ps).dirs.take i).flatMap (fun d:AF.cG=>d.now.map (·.2))++d.now.map (·.2):=by
      rw [ax,hdi,flatMap_append];simp
     generalize hxs:((A.crash ps).dirs.take i).flatMap (fun d:AF.cG=>d.now.map (·.2))=xs at hpk3 H11 hdt;have ex0:xs++(d.now.take 0).map (·.2)=xs:=by simp
     refine ⟨fun st hh=>∃ j,st=((j:Nat):Int)∧j≤d.now.length∧∃ (a:Option Addr) (l c:Nat),uR F (bL A ps (xs++(d.now.take j).map (·.2))).2 a l c∧
      aD (mW b0 a l c::aL 9 1 ka d.now.length kc ((d.now.map (·.1)).map Value.string)::aL 9 1 na2 (A.crash ps).dirs.length nc2 (((A.crash ps).dirs.map (·.name)).map Value.string)::vI b A q::bF aU q.md q.m::
       cj q.xbs (bL A ps (xs++(d.now.take j).map (·.2))).1::dp q.xbs q.fbs (A.crash ps).dirs::F) hh,
      fun st _=>((d.now.length:Int) - st).toNat,⟨0,rfl,au _,a3,l3,c3,by rw [ex0]; exact hpk3,by rw [ex0]; exact H11.ordT 7 [2,1,3,4,5,6,0]⟩,?_⟩
     rintro st h8 ⟨j,rfl,hj,a4,l4,c4,hpk4,H12⟩;by_cases hjl:j<d.now.length
     · rw [af (show ((j:Int)<(d.now.length:Int)) by omega),ab];obtain ⟨p,hpj⟩:∃ p,d.now[j]? = some p:=⟨_,ah hjl⟩
       have hpm:=ai hpj;have hnm2:((d.now.map (·.1)).map Value.string)[j]? = some (.string p.1):=by rw [getElem?_map,getElem?_map,hpj]; rfl
       refine cf (v:=.string p.1) (aH (H12.mv 1)) (by rw [an,an]) hnm2 fun ba2 hba2 hc2=>⟨_,hc2,?_⟩
       show DS (.string p.1) _;rw [aW];obtain ⟨nb2,bb2,a5,c5,es,hfb,hes,hsz,hlk⟩:=lT (H12.mv 6) hdi hfi w.ok.up;refine ⟨.map (some nb2),by rw [bj hfb]; rfl,?_⟩;show DM (.map (some nb2)) _;rw [bY];obtain ⟨f,hf,hl⟩:=hlk p.1;refine ⟨es,hes,f,hf,lg hl ?_⟩;rw [AF.xC w.ok.up.nodup (f:=p.2) hpm];have hx2:p.2<(A.crash ps).files.length:=(w.ok.each p hpm).1;have hx3:p.2<(bL A ps (xs++(d.now.take j).map (·.2))).1.length:=by
        rw [ge];rw [iF,ge] at hx2;exact hx2
       obtain ⟨_,xb,_,hxb,hgd⟩:=yr hq2 hx2;obtain ⟨y,hy⟩:∃ y,(bL A ps (xs++(d.now.take j).map (·.2))).1[p.2]? = some y:=⟨_,ah hx3⟩
       obtain ⟨yo1,yo2,_⟩:=rg W ps _ y (ai hy);show aS (some ⟨q.xbs.getD p.2 0,0,none⟩) _;rw [hgd];simp only [Option.map_some,aY,aV,hgd];obtain ⟨ya,yc,H13⟩:=lO (H12.mv 5) hy hxb;refine gJ (v:=.slice ya y.b.length yc) H13.get rfl ?_;rw [aF];refine gA (b:=xb) (i:=1) (v:=.int .i64 (y.safe:Int)) H13 rfl ?_;rw [aJ];refine gJ (v:=.slice ya y.b.length yc) H13.get rfl ?_;rw [aF];refine gA (b:=xb) (i:=1) (v:=.int .i64 (y.safe:Int)) H13 rfl ?_;rw [aJ];have w1:wrap .i64 ((y.b.length:Int) - (y.safe:Int))=((y.b.length - y.safe:Nat):Int):=by
        rw [IntWalk.i64_in _ (by omega)];omega
       rw [w1];refine (wT (n:=y.b.length - y.safe) (by omega) hpk4 (H13.rest 9) (H13.mv 3)).mono ?_;rintro v h9 ⟨rfl,a6,l6,c6,hpk6,H14⟩;rw [aJ];refine ⟨rfl,rfl,rfl,rfl,gJ (v:=.slice ya y.b.length yc) (H14.mv 1).get rfl (by rw [aF]; rfl),rfl,rfl,rfl,gA (b:=xb) (i:=1) (v:=.int .i64 (y.safe:Int)) (H14.mv 1) rfl (by rw [aJ]; rfl),?_⟩;have hple:=AF.nU (bL A ps (xs++(d.now.take j).map (·.2))).2 (y.b.length - y.safe);obtain hnext:=og hy;generalize hk:(AF.pick (bL A ps (xs++(d.now.take j).map (·.2))).2 (y.b.length - y.safe)).1=k at hple hnext;rw [← Int.natCast_add,dt (by omega)];have hyl:=fK (H14.mv 2);rw [an] at hyl;refine ir (lo:=0) (hi:=y.safe+k) (mx:=yc) (au _) (by omega) (av _) ?_;rw [oJ,Nat.sub_zero,Nat.sub_zero];have H15:=BK (k:=y.safe+k) (by omega) (H14.mv 2);rw [← map_take] at H15;refine bQ (b:=xb) (i:=0) (c':=#[.slice ya (y.safe+k) yc,.int .i64 (y.safe:Int)]) (H15.mv 2) (by show 0<2; decide) rfl fun h10 H16=>?_;refine gA (b:=xb) (i:=0) (v:=.slice ya (y.safe+k) yc) H16 rfl ?_;rw [aF];refine bQ (b:=xb) (i:=1) (c':=#[.slice ya (y.safe+k) yc,.int .i64 ((y.safe+k:Nat):Int)]) H16 (by show 1<2; decide) rfl fun h11 H17=>?_;have etl:(y.b.take (y.safe+k)).length=y.safe+k:=by rw [aq]; omega
       have H18:aD (pt xb (ri ya (y.b.take (y.safe+k)).length yc (y.safe+k))::aL 5 1 ya (y.b.take (y.safe+k)).length yc ((y.b.take (y.safe+k)).map nv)::rh q.xbs (bL A ps (xs++(d.now.take j).map (·.2))).1 p.2::mW b0 a6 l6 c6::
        aL 9 1 ka d.now.length kc ((d.now.map (·.1)).map Value.string)::aL 9 1 na2 (A.crash ps).dirs.length nc2 (((A.crash ps).dirs.map (·.name)).map Value.string)::vI b A q::bF aU q.md q.m::dp q.xbs q.fbs (A.crash ps).dirs::F) h11:=by
        rw [etl];exact H17.ordT 9 [0,1,3,2,4,5,6,7,8]
       have H19:=oh (y:=⟨y.b.take (y.safe+k),y.safe+k⟩) hy hxb H18;have ejs:(d.now.take (j+1)).map (·.2)=(d.now.take j).map (·.2)++[p.2]:=by
        rw [ax,hpj];simp
       have en:bL A ps (xs++(d.now.take (j+1)).map (·.2))=((bL A ps (xs++(d.now.take j).map (·.2))).1.set p.2 ⟨y.b.take (y.safe+k),y.safe+k⟩,(AF.pick (bL A ps (xs++(d.now.take j).map (·.2))).2 (y.b.length - y.safe)).2):=by
        rw [ejs,← append_assoc];exact hnext
       refine ⟨⟨j+1,aK (by omega),by omega,a6,l6,c6,by rw [en]; exact hpk6,?_⟩,?_⟩
       · rw [en];exact H19.ordT 7 [1,2,3,4,5,0,6]
       · rw [aK (by omega)];show ((d.now.length:Int) - ((j+1:Nat):Int)).toNat<((d.now.length:Int) - (j:Int)).toNat;omega
     · have ejl:j=d.now.length:=by omega
       subst ejl;rw [ae (by omega),aa];rw [take_length] at H12 hpk4;rw [← hdt] at H12 hpk4;refine ⟨⟨i+1,aK (by omega),by omega,a4,l4,c4,hpk4,H12.ordT 7 [0,2,3,4,5,6]⟩,?_⟩;rw [aK (by omega)];show (((A.crash ps).dirs.length:Int) - ((i+1:Nat):Int)).toNat<(((A.crash ps).dirs.length:Int) - (i:Int)).toNat;omega
   · have ei2:i=(A.crash ps).dirs.length:=by omega
     subst ei2;rw [ae (by omega),aa];rw [take_length] at H5;have efs:(bL A ps ((A.crash ps).dirs.flatMap fun d=>d.now.map (·.2))).1=(A.crash ps).files:=(iF ps).symm;rw [efs] at H5;simp only [aY,aV];refine bQ (b:=b) (i:=4) (c':=#[.int .i64 (A.room:Int),.int .i64 (A.used:Int),.int .i64 (A.steps:Int),.int .i64 (eZ A.fuse),.bool false,.map (some q.md)]) (H5.mv 2) (by show 4<6; decide) rfl fun h6 H6=>?_;refine bQ (b:=b) (i:=3) (c':=#[.int .i64 (A.room:Int),.int .i64 (A.used:Int),.int .i64 (A.steps:Int),.int .i64 (-1),.bool false,.map (some q.md)]) H6 (by show 3<6; decide) rfl fun h7 H7=>?_;refine (rJ (A:=A.crash ps) (room:=(A.room:Int)) (used0:=(A.used:Int)) (steps:=(A.steps:Int)) (fuse := -1) (off:=false) W2 hq2 (H7.ordT 6 [0,3,4,5])).mono ?_;rintro v h8 ⟨rfl,H8⟩;exact ⟨by trivial,by trivial,bu q hq2 H8⟩
end
end Go.Proofs.YtmemjbiijclbdaaGreat
