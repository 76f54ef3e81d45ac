/- Append,Sync,SyncDir. Rename,Remove,Read,List,Dirs,and what is told at once. Crash. Crash: the calls themselves. -/
import Derived.Test.YtdpaiiibndnanaaGreatDoorQpFsC
import Derived.Test.YtdpaiiibndnanaaGreatDoorQpFsA
namespace Go.Proofs.YtdpaiiibndnanaaGreatDoor
open Go.IntKind (wrap)
open Go.Proofs.Tryz (prog)
open List (getD_eq_getElem?_getD append_assoc map_take drop_zero map_cons map_congr_left nil_append cons_append map_map append_nil getElem?_take le_antisymm pairwise_map flatMap_append length_modify zipWith getElem?_drop drop_eq_getElem_cons set_append_right take_length)
open Go Go.RowKit Go.MapKept
set_option linter.unusedVariables false
set_option linter.unusedSimpArgs false
theorem Df:prog.underlying 30=some (.slice 5):=by kernel_rfl
theorem vv:d8 prog 30=true:=by kernel_rfl
theorem AK:gj prog 5 1=true:=by kernel_rfl
def pu (a:Option Addr) (l c s:Nat):Obj:=.cells #[.slice a l c,.int .i64 (s:Int)] 180 (0,0)
def pq (xbs:List Nat) (fs:List AF.cV) (x:Nat):aF:=qe tH fs xbs x
section
variable {b:Nat} {A:AF.FS} {q:rp} {F:List aF} {h:Heap}
theorem kn {xbs:List Nat} {fs:List AF.cV} {x:Nat} {y:AF.cV} {xb:Nat} (H:aG (bY xbs fs::F) h) (hx:fs[x]? = some y) (hb:xbs[x]? = some xb) :
  ∃ (a:Option Addr) (c:Nat),aG (pt xb (pu a y.b.length c y.safe)::aQ 5 1 a y.b.length c (y.b.map nv)::pq xbs fs x::F) h:=by
 obtain ⟨r,H2⟩:=bD.1 (gU H hx hb)
 exact ⟨r.1,r.2,H2.open⟩
theorem mr {xbs:List Nat} {fs:List AF.cV} {x:Nat} {y y':AF.cV} {xb c:Nat} {a:Option Addr} (hx:fs[x]? = some y') (hb:xbs[x]? = some xb)
  (H:aG (pt xb (pu a y.b.length c y.safe)::aQ 5 1 a y.b.length c (y.b.map nv)::pq xbs fs x::F) h):aG (bY xbs (fs.set x y)::F) h:=by
 refine sd hb (ak.1 hx).1 (bD.2 ⟨(a,c),?_⟩)
 exact aG.shut (m:=[pt xb (pu a y.b.length c y.safe),aQ 5 1 a y.b.length c (y.b.map nv)]) H
theorem pk (hq:lu A q) (x:Nat) (g:AF.cV→AF.cV):lu (A.setFile x g) q:=pj hq rfl (length_modify ..)
theorem wg (W:A.WF) {x:Nat} {g:AF.cV→AF.cV} (hg:∀ y,(g y).b=y.b):(A.setFile x g).used=A.used:=by
 unfold AF.FS.used
 congr 1
 apply map_congr_left
 intro y hy
 rw [AF.kW]
 split
 · rw [hg]
 · rfl
theorem pQ {dir name:ByteArray} {ba:Option Addr} {bl bc:Nat} {bs:List Nat} (W:A.WF) (hs:A.steps<1099511627776) (hd:dir.size<4611686018427387904) (hn:name.size<4611686018427387904)
  (hr:∀ h',aG F h'→cv h' ba (bs.map nv)) (hl:bs.length=bl) (hlb:bl<4611686018427387904) (H:aG (bV b A::F) h) :
  aE prog 51 [aM b,.string dir,.string name,.slice ba bl bc] h fun v h'=>v=.int .i64 ((A.append dir name bs).2:Int)∧aG (bV b (A.append dir name bs).1::F) h':=by
 obtain ⟨q,hq,H0⟩:=cP H
 apply Ep.ap
 unfold IW
 refine (kZ W hq H0 hd hn).mono ?_
 rintro v h1 ⟨H1,⟨i,x,d,y,fb,xb,he,hdi,hfi,hy,hxb,rfl⟩ | ⟨e,he,e0,rfl⟩⟩
 · refine ⟨_,some ⟨xb,0,none⟩,0,rfl,?_⟩;rw [show ((0:Int)!=0)=false from rfl,ab];simp only [aK,aP];obtain ⟨ya,yc,hyb,_⟩:=qX (H1.mv 2) hy hxb;refine gd (v:=.slice ya y.b.length yc) hyb rfl ?_;have hX:=AF.qf hy;have wy:=W.files y (aj hy);have hu:=W.used_le;rw [aI,← Int.natCast_add,dh (by omega)];by_cases hlong:16777216<y.b.length+bl
   · rw [ah (show (((y.b.length+bl:Nat):Int)>16777216) by omega),ae];have e:A.append dir name bs=(A,67):=by
      unfold AF.FS.append;rw [he];simp only [hX,hl,an hlong]
     rw [e];exact ⟨rfl,bu q hq H1⟩
   · rw [af (show ¬ (((y.b.length+bl:Nat):Int)>16777216) by omega),ab];refine dX (i:=1) (v:=.int .i64 (A.used:Int)) H1 rfl ?_;rw [aL];refine dX (i:=0) (v:=.int .i64 (A.room:Int)) H1 rfl ?_;rw [aL,← Int.natCast_add,dh (by omega)];by_cases hfull:A.room<A.used+bl
     · rw [ah (show (((A.used+bl:Nat):Int)>(A.room:Int)) by omega),ae];have e:A.append dir name bs=(A,64):=by
        unfold AF.FS.append;rw [he];simp only [hX,hl,am hlong,an hfull]
       rw [e];exact ⟨rfl,bu q hq H1⟩
     · rw [af (show ¬ (((A.used+bl:Nat):Int)>(A.room:Int)) by omega),ab];have e:A.append dir name bs=A.step fun g=>g.setFile x fun y=>{ y with b:=y.b++bs }:=by
        unfold AF.FS.append;rw [he];simp only [hX,hl,am hlong,am hfull]
       rw [e];refine (jk W hs H1).mono ?_;rintro v h2 (⟨h0,rfl,H2⟩ | ⟨h0,rfl,H2⟩)
       · rw [aL,show ((60:Int)!=0)=true from rfl,ae];unfold AF.FS.step;rw [an h0];exact ⟨rfl,bu (A:={ A with off:=true }) q hq H2⟩
       · rw [aL,show ((0:Int)!=0)=false from rfl,ab];unfold AF.FS.step;rw [am h0];obtain ⟨a,c,H3⟩:=kn (H2.mv 2) hy hxb;refine gd (v:=.slice a y.b.length c) H3.get rfl ?_;rw [aI];have H4:aG (aQ 5 1 a y.b.length c (y.b.map nv)::pt xb (pu a y.b.length c y.safe)::pq q.xbs A.files x::cA b A.stepOn q.md::bT aS q.md q.m::cQ q.xbs q.fbs A.dirs::F) h2:=H3.mv 1;have hrd:=hr h2 (((((H4.drop).drop).drop).drop).drop).drop;refine xg (ys:=bs) Df vv AK H4 (wv hrd hl) (by omega) fun a2 c2 h3 _ H5=>?_;rw [aI];refine ct (b:=xb) (i:=0) (c':=#[.slice a2 (y.b.length+bl) c2,.int .i64 (y.safe:Int)]) (H5.mv 1) (by show 0<2; decide) rfl fun h4 H6=>?_;refine dX (i:=1) (v:=.int .i64 (A.used:Int)) (H6.mv 3) rfl ?_;rw [aL,← Int.natCast_add,dh (by omega)];refine ct (b:=b) (i:=1) (c':=#[.int .i64 (A.room:Int),.int .i64 ((A.used+bl:Nat):Int),.int .i64 (A.stepOn.steps:Int),.int .i64 (dP A.stepOn.fuse),.bool A.off,.map (some q.md)]) (H6.mv 3) (by show 1<6; decide) rfl fun h5 H7=>?_;refine ⟨rfl,bu q (pk (A:=A.stepOn) hq x _) ?_⟩;have el:(y.b++bs).length=y.b.length+bl:=by rw [ao,hl]
         have H8:aG (pt xb (pu a2 (y.b++bs).length c2 y.safe)::aQ 5 1 a2 (y.b++bs).length c2 ((y.b++bs).map nv)::pq q.xbs A.files x::
          iX b (A.room:Int) ((A.used+bl:Nat):Int) (A.stepOn.steps:Int) (dP A.stepOn.fuse) A.off q.md::bT aS q.md q.m::cQ q.xbs q.fbs A.dirs::F) h5:=by
          rw [el];exact H7.ordT 6 [1,2,3,0,4,5]
         have H9:=mr (y:=⟨y.b++bs,y.safe⟩) hy hxb H8;have e3:A.files.set x ⟨y.b++bs,y.safe⟩=(A.stepOn.setFile x fun y=>{ y with b:=y.b++bs }).files:=(cT (l:=A.files) (fun y:AF.cV=>{ y with b:=y.b++bs }) hy).symm;rw [e3] at H9;have eu:=W.stepOn.used_append (x:=x) (AF.wV he) bs;have eu2:(A.stepOn.setFile x fun y=>{ y with b:=y.b++bs }).used=A.used+bl:=by rw [eu,hl]; rfl
         unfold cA;rw [eu2];exact H9.ordT 4 [1,2,0,3]
 · refine ⟨none,none,(e:Int),rfl,?_⟩;rw [aX e0,ae];unfold AF.FS.append;rw [he];exact ⟨rfl,bu q hq H1⟩
theorem pP {dir name:ByteArray} (W:A.WF) (hs:A.steps<1099511627776) (hd:dir.size<4611686018427387904) (hn:name.size<4611686018427387904) (H:aG (bV b A::F) h) :
  aE prog 52 [aM b,.string dir,.string name] h fun v h'=>v=.int .i64 ((A.sync dir name).2:Int)∧aG (bV b (A.sync dir name).1::F) h':=by
 obtain ⟨q,hq,H0⟩:=cP H
 apply Eo.ap
 unfold IV
 refine (kZ W hq H0 hd hn).mono ?_
 rintro v h1 ⟨H1,⟨i,x,d,y,fb,xb,he,hdi,hfi,hy,hxb,rfl⟩ | ⟨e,he,e0,rfl⟩⟩
 · refine ⟨_,some ⟨xb,0,none⟩,0,rfl,?_⟩;rw [show ((0:Int)==0)=true from rfl,ae];have e:A.sync dir name=A.step fun g=>g.setFile x fun y=>{ y with safe:=y.b.length }:=by
    unfold AF.FS.sync;rw [he]
   rw [e];refine (jk W hs H1).mono ?_;rintro v h2 (⟨h0,rfl,H2⟩ | ⟨h0,rfl,H2⟩)
   · rw [aL,show ((60:Int)==0)=false from rfl,ab];unfold AF.FS.step;rw [an h0];exact ⟨rfl,bu (A:={ A with off:=true }) q hq H2⟩
   · rw [aL,show ((0:Int)==0)=true from rfl,ae];simp only [aK,aP];unfold AF.FS.step;rw [am h0];obtain ⟨a,c,H3⟩:=kn (H2.mv 2) hy hxb;refine gd (v:=.slice a y.b.length c) H3.get rfl ?_;rw [aI];refine ct (b:=xb) (i:=1) (c':=#[.slice a y.b.length c,.int .i64 (y.b.length:Int)]) H3 (by show 1<2; decide) rfl fun h3 H4=>?_;refine ⟨rfl,bu q (pk (A:=A.stepOn) hq x _) ?_⟩;have H5:=mr (y:=⟨y.b,y.b.length⟩) hy hxb H4;have e3:A.files.set x ⟨y.b,y.b.length⟩=(A.stepOn.setFile x fun y=>{ y with safe:=y.b.length }).files:=(cT (l:=A.files) (fun y:AF.cV=>{ y with safe:=y.b.length }) hy).symm;rw [e3] at H5;have eu2:(A.stepOn.setFile x fun y=>{ y with safe:=y.b.length }).used=A.stepOn.used:=wg W.stepOn fun y=>rfl;unfold cA;rw [eu2];exact H5.ordT 4 [1,2,0,3]
 · refine ⟨none,none,(e:Int),rfl,?_⟩;rw [kT e0,ab,ab];unfold AF.FS.sync;rw [he];exact ⟨rfl,bu q hq H1⟩
theorem kB {dir:ByteArray} (W:A.WF) (hs:A.steps<1099511627776) (hd:dir.size<4611686018427387904) (H:aG (bV b A::F) h) :
  aE prog 53 [aM b,.string dir] h fun v h'=>v=.int .i64 ((A.syncDir dir).2:Int)∧aG (bV b (A.syncDir dir).1::F) h':=by
 obtain ⟨q,hq,H1⟩:=cP H
 apply En.ap
 unfold IU
 refine (gA (ss:=[]) (a:=none) (c:=0) W hq H1 rfl rfl (show 0<1000 by omega) hd (by simp)).mono ?_
 rintro v h1 ⟨rfl,hcase⟩
 rcases hcase with ⟨i,d,fb,he,hdi,hfi,rfl⟩ | ⟨e,he,hne,rfl⟩
 · refine ⟨some ⟨fb,0,none⟩,0,rfl,?_⟩;rw [show ((0:Int)==0)=true from rfl,ae];have e:A.syncDir dir=A.step fun g=>g.setDir i fun d=>{ d with base:=d.now,pend:=[] }:=by
    unfold AF.FS.syncDir;rw [he]
   rw [e];refine (jk W hs H1).mono ?_;rintro v h2 (⟨h0,rfl,H2⟩ | ⟨h0,rfl,H2⟩)
   · rw [aL,show ((60:Int)==0)=false from rfl,ab];unfold AF.FS.step;rw [an h0];exact ⟨rfl,bu (A:={ A with off:=true }) q hq H2⟩
   · rw [aL,show ((0:Int)==0)=true from rfl,ae];simp only [aK,aP];unfold AF.FS.step;rw [am h0];obtain ⟨nb,bb,a,c,H3⟩:=i7 (H2.mv 3) hdi hfi;refine gd (v:=.map (some nb)) H3.get rfl ?_;rw [cM];obtain ⟨m2,hp2,H4⟩:=eN (H3.mv 1);refine (nd H4).mono ?_;rintro v h3 ⟨cb,rfl,H5⟩;rw [cM];have H6:aG (pt fb (li nb bb a d.pend.length c)::bT aS cb m2::bT aS nb m2::lM q.xbs q.fbs A.dirs i::cA b A.stepOn q.md::bT aS q.md q.m::bY q.xbs A.files::F) h3:=H5.ordT 9 [2,0,1,5,6,7,8];refine ct (b:=fb) (i:=1) (c':=#[.map (some nb),.map (some cb),.slice a d.pend.length c]) H6 (by show 1<3; decide) rfl fun h4 H7=>?_;refine ct (b:=fb) (i:=2) (c':=#[.map (some nb),.map (some cb),.slice none 0 0]) H7 (by show 2<3; decide) rfl fun h5 H8=>?_;have H9:=cR hp2 (H8.mv 1);have H10:=cR hp2 (H9.mv 2);have H11:=jv (lF q.xbs) 182 H10;have H12:aG (cQ q.xbs q.fbs (A.dirs.set i { d with base:=d.now,pend:=[] })::cA b A.stepOn q.md::bT aS q.md q.m::bY q.xbs A.files::F) h5:=
      lL (d:={ d with base:=d.now,pend:=[] }) (a:=none) (c:=0) hdi hfi (H11.ordT 5 [3,1,2,0,4])
     have e3:A.dirs.set i { d with base:=d.now,pend:=[] }=(A.stepOn.setDir i fun d=>{ d with base:=d.now,pend:=[] }).dirs:=(cT (l:=A.dirs) (fun d:AF.cu=>{ d with base:=d.now,pend:=[] }) hdi).symm;rw [e3] at H12;have eu:(A.stepOn.setDir i fun d=>{ d with base:=d.now,pend:=[] }).used=A.stepOn.used:=by
      have:(A.stepOn.setDir i fun d=>{ d with base:=d.now,pend:=[] }).idx=A.stepOn.idx:=by
       unfold AF.FS.idx;rw [List.flatMap_def,List.flatMap_def];congr 1;apply List.ext_getElem?;intro j;show ((A.dirs.modify i _).map _)[j]? = (A.dirs.map _)[j]?;rw [List.getElem?_map,List.getElem?_map,gH]
       cases A.dirs[j]? with
       | none=>rfl
       | some d'=>by_cases hij:i=j <;> simp [hij]
      unfold AF.FS.used;rw [this]
      rfl
     refine ⟨rfl,bu q (pj (A:=A.stepOn) hq (jO fun d=>rfl) rfl) ?_⟩;unfold cA;rw [eu];exact H12.ordT 4 [1,2,3,0]
 · refine ⟨none,(e:Int),rfl,?_⟩;have e0:e≠0:=by omega
   rw [kT e0,ab,ab];unfold AF.FS.syncDir;rw [he];exact ⟨rfl,bu q hq H1⟩
end
theorem Ic {F:List aF} {h:Heap} {b0:Nat} {e:TypeId} {cs:Array Value} {xs:List Value} (H:aG (pt b0 (.cells cs e (0,0))::F) h) (hx:cs.toList=xs):cv h (some ⟨b0,0,none⟩) xs:=by
 intro j u hv
 rw [dH H.get,← hv,← hx,Array.getElem?_toList]
theorem ow {l:List ByteArray} (h:l.Pairwise fun a b=>AF.ji a b=true):hY l=l:=by
 have tr:∀ x y z:List UInt8,decide (x≤y)=true→decide (y≤z)=true→decide (x≤z)=true:=fun x y z h1 h2=>by
  simp only [decide_eq_true_eq] at h1 h2 ⊢;exact List.le_trans h1 h2
 have to:∀ x y:List UInt8,(decide (x≤y)||decide (y≤x))=true:=fun x y=>by
  simp only [Bool.or_eq_true,decide_eq_true_eq];exact List.le_total x y
 have e:(l.map fun s:ByteArray=>s.data.toList).mergeSort (fun x y=>decide (x≤y))=l.map fun s:ByteArray=>s.data.toList:=by
  refine List.Perm.eq_of_pairwise (le:=fun x y=>decide (x≤y)=true) ?_ (List.pairwise_mergeSort tr to _) ?_ (List.mergeSort_perm _ _)
  · intro x y _ _ h1 h2;simp only [decide_eq_true_eq] at h1 h2;exact le_antisymm h1 h2
  · rw [pairwise_map];refine h.imp fun {a b} hab=>?_;rw [AF.kI] at hab;simp only [decide_eq_true_eq];exact List.le_of_lt hab
 unfold hY
 rw [e,map_map]
 conv=>rhs; rw [← List.map_id l]
 exact map_congr_left fun s _=>by cases s; rfl
section
variable {b:Nat} {A:AF.FS} {q:rp} {F:List aF} {h:Heap}
theorem ub {dir k k2:ByteArray} (W:A.WF) (hs:A.steps<1099511627776) (hd:dir.size<4611686018427387904) (hn:k.size<4611686018427387904) (hn2:k2.size<4611686018427387904) (H:aG (bV b A::F) h) :
  aE prog 54 [aM b,.string dir,.string k,.string k2] h fun v h'=>v=.int .i64 ((A.rename dir k k2).2:Int)∧aG (bV b (A.rename dir k k2).1::F) h':=by
 obtain ⟨q,hq,H0⟩:=cP H
 apply Em.ap
 unfold IT
 refine aW H0 fun b0 h1 H1=>aW H1 fun b1 h2 H2=>?_
 refine gd (v:=.string k) (H2.mv 1).get rfl ?_
 rw [aT]
 refine gd (v:=.string k2) H2.get rfl ?_
 rw [aT]
 refine aW H2 fun b2 h3 H3=>?_
 have H4:aG (wT b A q (pt b0 (.cells #[.string k] 9 (0,0))::pt b1 (.cells #[.string k2] 9 (0,0))::F)) h3:=H3.ordT 7 [3,4,5,6,2,1]
 refine (gA (ss:=[k,k2]) W hq H4 (Ic H3 rfl) rfl (show 2<1000 by omega) hd (fun s hs=>by simp at hs; rcases hs with rfl | rfl; exact hn; exact hn2)).mono ?_
 rintro v h4 ⟨rfl,hcase⟩
 have Hd:aG (wT b A q F) h4:=(((H4.mv 5).drop).mv 4).drop
 rcases hcase with ⟨i,d,fb,he,hdi,hfi,rfl⟩ | ⟨e,he,hne,rfl⟩
 · have w:=W.each d (aj hdi);obtain ⟨nb,bb,a,c,es,hfb,hes,hsz,hlk⟩:=ku (H4.mv 3) hdi hfi w.ok.up;obtain ⟨f,hf,hl⟩:=hlk k;refine ⟨some ⟨fb,0,none⟩,0,rfl,?_⟩;rw [show ((0:Int)!=0)=false from rfl,ab];simp only [aK,aP];have rd:∀ K:Value→Prop,K (.map (some nb))→Ld h4 ⟨fb,0,none⟩ K:=fun K hK=>⟨_,by rw [cm hfb]; rfl,hK⟩
   refine rd _ ?_;rw [cM];refine gd (v:=.string k) (H4.mv 4).get rfl ?_;rw [aT];refine ⟨es,hes,f,hf,jZ hl ?_⟩;have hD:=AF.iR hdi
   cases ho:AF.of d.now k with
   | none=>
     show bif (true:Bool) then _ else _
     rw [ae];have e:A.rename dir k k2=(A,62):=by
      unfold AF.FS.rename;rw [he];simp only [hD,ho,Option.isNone_none,if_true]
     rw [e];exact ⟨rfl,bu q hq Hd⟩
   | some x=>
     show bif (false:Bool) then _ else _
     rw [ab];have e:A.rename dir k k2=A.step fun g=>g.did i (.rename k k2):=by
      unfold AF.FS.rename;rw [he];simp only [hD,ho,Option.isNone_some,Bool.false_eq_true,if_false]
     rw [e];obtain ⟨_,_,hr,_,_⟩:=AF.db he;have ho2:AF.of d.now k≠none:=by rw [ho]; exact fun e=>by cases e
     have K1:=((H4.mv 4).freeze.mv 5).freeze;have K2:aG (lF q.xbs (.rename k k2) (.func (.func 105) #[] #[aM b0,aM b1])::wT b A q F) h4:=by
      refine bD.2 ⟨(b0,b1),aG.shut (m:=[lY ((Value.func (.func 105) #[] #[aM b0,aM b1])=.func (.func 105) #[] #[aM b0,aM b1]),ro b0 (.cells #[.string k] 9 (0,0)),ro b1 (.cells #[.string k2] 9 (0,0))]) ?_⟩;exact cE.2 ⟨rfl,K1.mv 1⟩
     refine (ne W (AF.qv W hdi (hr k (by simp)) (hr k2 (by simp)) ho2) hq hdi hfi (AF.nk (hr k (by simp)) (hr k2 (by simp)) ho2) hs (K2.bk 4)).mono ?_;rintro v h5 ⟨rfl,H5⟩;rw [aL];refine ⟨rfl,bu q ?_ H5⟩;unfold AF.FS.step;split
     · exact hq
     · exact ob (A:=A.stepOn) hq i _
 · refine ⟨none,(e:Int),rfl,?_⟩;have e0:e≠0:=by omega
   rw [aX e0,ae];unfold AF.FS.rename;rw [he];exact ⟨rfl,bu q hq Hd⟩
theorem mB {dir k:ByteArray} (W:A.WF) (hs:A.steps<1099511627776) (hd:dir.size<4611686018427387904) (hn:k.size<4611686018427387904) (H:aG (bV b A::F) h) :
  aE prog 55 [aM b,.string dir,.string k] h fun v h'=>v=.int .i64 ((A.remove dir k).2:Int)∧aG (bV b (A.remove dir k).1::F) h':=by
 obtain ⟨q,hq,H0⟩:=cP H
 apply El.ap
 unfold IS
 refine aW H0 fun b0 h1 H1=>?_
 refine gd (v:=.string k) H1.get rfl ?_
 rw [aT]
 refine (kZ W hq (H1.bk 4) hd hn).mono ?_
 rintro v h2 ⟨H2,⟨i,x,d,y,fb,xb,he,hdi,hfi,hy,hxb,rfl⟩ | ⟨e,he,e0,rfl⟩⟩
 · refine ⟨some ⟨fb,0,none⟩,_,0,rfl,?_⟩;rw [show ((0:Int)!=0)=false from rfl,ab];have e:A.remove dir k=A.step fun g=>g.did i (.remove k):=by
    unfold AF.FS.remove;rw [he]
   rw [e];obtain ⟨hrd,_⟩:=AF.kq he;obtain ⟨_,_,hr,_,_⟩:=AF.db hrd;have K2:aG (lF q.xbs (.remove k) (.func (.func 106) #[] #[aM b0])::wT b A q F) h2:=by
    refine bD.2 ⟨b0,aG.shut (m:=[lY ((Value.func (.func 106) #[] #[aM b0])=.func (.func 106) #[] #[aM b0]),ro b0 (.cells #[.string k] 9 (0,0))]) ?_⟩;exact cE.2 ⟨rfl,(H2.mv 4).freeze⟩
   refine (ne W (AF.qw W hdi (hr k (by simp))) hq hdi hfi (hr k (by simp)) hs (K2.bk 4)).mono ?_;rintro v h5 ⟨rfl,H5⟩;rw [aL];refine ⟨rfl,bu q ?_ H5⟩;unfold AF.FS.step;split
   · exact hq
   · exact ob (A:=A.stepOn) hq i _
 · refine ⟨none,none,(e:Int),rfl,?_⟩;rw [aX e0,ae];unfold AF.FS.remove;rw [he];exact ⟨rfl,bu q hq (H2.mv 4).drop⟩
theorem rE {a:Option Addr} {l c:Nat} {xs:List Nat} (hl:l≤140737488355328) (H:aG (aQ 5 1 a l c (xs.map nv)::F) h) :
  aE prog 112 [.slice a l c] h fun v h'=>∃ (a2:Option Addr) (c2:Nat),v=.slice a2 l c2∧aG (aQ 5 1 a2 l c2 (xs.map nv)::aQ 5 1 a l c (xs.map nv)::F) h':=by
 apply CD.ap
 unfold Hi
 cases a with
 | none=>
   obtain ⟨hxl,⟨_,rfl,rfl,hx,H1⟩ | ⟨_,_,_,e,_⟩⟩:=dB H
   · refine ⟨none,0,rfl,?_⟩;rw [hx];exact bR 5 1 (bR 5 1 H1)
   · cases e
 | some a=>
   rw [show (some a).isNone=false from rfl,ab];have hlen:=dA H;refine aW H fun b0 h1 H1=>?_;have H2:aG (aQ 5 1 (some ⟨b0,0,none⟩) 0 0 (([]:List Nat).map nv)::aQ 5 1 (some a) l c (xs.map nv)::F) h1:=fe H1 (fun i hi=>by simp at hi) (ax _) (aw _) rfl rfl;refine xg (ys:=xs) Df vv AK H2 (wv (aH (H2.mv 1)) (by have:=hlen.1; simpa using this)) (by omega) fun a2 c2 h2 _ H3=>?_;rw [aI];rw [Nat.zero_add,nil_append] at H3;exact ⟨a2,c2,by rw [Nat.zero_add],H3⟩
theorem pL {dir name:ByteArray} (W:A.WF) (hd:dir.size<4611686018427387904) (hn:name.size<4611686018427387904) (H:aG (bV b A::F) h) :
  aE prog 80 [aM b,.string dir,.string name] h fun v h'=>
   (∃ (bs:List Nat) (a:Option Addr) (c:Nat),A.read dir name=.ok bs∧B8 bs∧bs.length≤16777216∧v=.tuple #[.slice a bs.length c,.int .i64 0]∧aG (aQ 5 1 a bs.length c (bs.map nv)::bV b A::F) h')∨
   (∃ e:Nat,A.read dir name=.error e∧e≠0∧v=.tuple #[.slice none 0 0,.int .i64 (e:Int)]∧aG (bV b A::F) h'):=by
 obtain ⟨q,hq,H0⟩:=cP H
 apply Ec.ap
 unfold IG
 refine (kZ W hq H0 hd hn).mono ?_
 rintro v h1 ⟨H1,⟨i,x,d,y,fb,xb,he,hdi,hfi,hy,hxb,rfl⟩ | ⟨e,he,e0,rfl⟩⟩
 · refine ⟨_,some ⟨xb,0,none⟩,0,rfl,?_⟩;rw [show ((0:Int)!=0)=false from rfl,ab];simp only [aK,aP];have wy:=W.files y (aj hy);obtain ⟨a,c,H3⟩:=kn (H1.mv 2) hy hxb;refine gd (v:=.slice a y.b.length c) H3.get rfl ?_;rw [aI];refine (rE (by omega) (H3.mv 1)).mono ?_;rintro v h2 ⟨a2,c2,rfl,H4⟩;rw [aI];refine .inl ⟨y.b,a2,c2,?_,wy.2.2,wy.2.1,rfl,?_⟩
   · unfold AF.FS.read;rw [he];simp only [AF.qf hy]
   · -- copy,aQ,pt xb,pq,raw,bT,dirs
     have H5:=mr hy hxb (H4.ordT 7 [2,1,3,0,4,5,6]);rw [jp hy] at H5;have H6:aG (wT b A q (aQ 5 1 a2 y.b.length c2 (y.b.map nv)::F)) h2:=H5.ordT 5 [2,3,0,4,1];exact (bu q hq H6).mv 1
 · refine ⟨none,none,(e:Int),rfl,?_⟩;rw [aX e0,ae];refine .inr ⟨e,?_,e0,rfl,bu q hq H1⟩;unfold AF.FS.read;rw [he]
theorem sK {l:AF.bG} (h:AF.Up l):(l.map (·.1)).Pairwise fun a b=>AF.ji a b=true:=List.pairwise_map.2 h
theorem kz {dir:ByteArray} (W:A.WF) (hd:dir.size<4611686018427387904) (H:aG (bV b A::F) h) :
  aE prog 78 [aM b,.string dir] h fun v h'=>
   (∃ (ks:List ByteArray) (a:Option Addr) (c:Nat),A.list dir=.ok ks∧(∀ k∈ks,AF.right k=true)∧ks.length≤4096∧v=.tuple #[.slice a ks.length c,.int .i64 0]∧aG (aQ 9 1 a ks.length c (ks.map Value.string)::bV b A::F) h')∨
   (∃ e:Nat,A.list dir=.error e∧e≠0∧v=.tuple #[.slice none 0 0,.int .i64 (e:Int)]∧aG (bV b A::F) h'):=by
 obtain ⟨q,hq,H1⟩:=cP H
 apply Ee.ap
 unfold II
 refine (gA (ss:=[]) (a:=none) (c:=0) W hq H1 rfl rfl (show 0<1000 by omega) hd (by simp)).mono ?_
 rintro v h1 ⟨rfl,hcase⟩
 rcases hcase with ⟨i,d,fb,he,hdi,hfi,rfl⟩ | ⟨e,he,hne,rfl⟩
 · refine ⟨some ⟨fb,0,none⟩,0,rfl,?_⟩;rw [show ((0:Int)!=0)=false from rfl,ab];simp only [aK,aP];have w:=W.each d (aj hdi);obtain ⟨nb,bb,a,c,H3⟩:=i7 (H1.mv 3) hdi hfi;refine gd (v:=.map (some nb)) H3.get rfl ?_;rw [cM];refine (rF H3).mono ?_;rintro v h2 ⟨cb,rfl,H4⟩;refine ⟨_,rfl,?_⟩;obtain ⟨m2,hp2,H5⟩:=eN (H4.mv 2);have hml:m2.length=d.now.length:=by rw [hp2.length_eq,aq]
   have hfew:=w.ok.few;refine (rG (H5.mv 1) (by omega)).mono ?_;rintro v h3 ⟨a3,c3,rfl,H6⟩;rw [aI];have ek:hY (m2.map (·.1))=d.now.map (·.1):=by
    rw [fP (hp2.map (·.1)),pv,ow (sK w.ok.up)]
   rw [ek] at H6;refine .inl ⟨d.now.map (·.1),a3,c3,?_,?_,by rw [aq]; exact hfew,by rw [aq,hml],?_⟩
   · unfold AF.FS.list;rw [he];simp only [AF.iR hdi]
   · intro k hk;obtain ⟨p,hp,rfl⟩:=List.mem_map.1 hk;exact (w.ok.each p hp).2
   · rw [aq,← hml];have H7:=cR hp2 (H6.mv 1);have H8:=lL (d:=d) hdi hfi (H7.ordT 9 [2,0,3,4,5,1,6,7,8]);rw [jp hdi] at H8;have H9:aG (wT b A q (aQ 9 1 a3 m2.length c3 ((d.now.map (·.1)).map Value.string)::F)) h3:=H8.ordT 5 [2,3,4,0,1];exact (bu q hq H9).mv 1
 · refine ⟨none,(e:Int),rfl,?_⟩;have e0:e≠0:=by omega
   rw [aX e0,ae];refine .inr ⟨e,?_,e0,rfl,bu q hq H1⟩;unfold AF.FS.list;rw [he]
theorem sA {room used steps fuse:Int} {off:Bool} (W:A.WF) (hq:lu A q) (H:aG (iX b room used steps fuse off q.md::bT aS q.md q.m::F) h) :
  aE prog 77 [aM b] h fun v h'=>∃ (a:Option Addr) (c:Nat),v=.slice a A.dirs.length c∧aG (aQ 9 1 a A.dirs.length c ((A.dirs.map (·.name)).map Value.string)::iX b room used steps fuse off q.md::bT aS q.md q.m::F) h':=by
 apply Ef.ap
 unfold IJ
 rw [show (some (⟨b,0,none⟩:Addr)).isNone=false from rfl,ab]
 simp only [aK]
 refine dX (v:=.map (some q.md)) H rfl ?_
 rw [cM]
 refine (xK H).mono ?_
 rintro v h2 ⟨cb,rfl,H4⟩
 refine ⟨_,rfl,?_⟩
 have hml:q.m.length=A.dirs.length:=by have:=(jB hq).length_eq; simpa using this
 have hfew:=W.few
 refine (vo (H4.ordT 3 [0,2,1]) (by omega)).mono ?_
 rintro v h3 ⟨a3,c3,rfl,H6⟩
 rw [aI]
 have ek:hY (q.m.map (·.1))=A.dirs.map (·.name):=by
  rw [fP (jB hq),ow (List.pairwise_map.2 W.up)]
 rw [ek,hml] at H6
 exact ⟨a3,c3,by rw [hml],H6.ordT 3 [0,2,1]⟩
theorem zu (W:A.WF) (H:aG (bV b A::F) h) :
  aE prog 77 [aM b] h fun v h'=>∃ (a:Option Addr) (c:Nat),v=.slice a A.dirs.length c∧aG (aQ 9 1 a A.dirs.length c ((A.dirs.map (·.name)).map Value.string)::bV b A::F) h':=by
 obtain ⟨q,hq,H1⟩:=cP H
 refine (sA W hq H1).mono ?_
 rintro v h1 ⟨a,c,rfl,H2⟩
 have H3:aG (wT b A q (aQ 9 1 a A.dirs.length c ((A.dirs.map (·.name)).map Value.string)::F)) h1:=H2.ordT 5 [1,2,3,4,0]
 exact ⟨a,c,rfl,(bu q hq H3).mv 1⟩
theorem zx (H:aG (bV b A::F) h):aE prog 73 [aM b] h fun v h'=>v=.int .i64 (A.used:Int)∧h'=h:=by
 obtain ⟨q,hq,H1⟩:=cP H
 apply Ei.ap
 unfold IP
 rw [show (some (⟨b,0,none⟩:Addr)).isNone=false from rfl,ab]
 simp only [aK]
 refine dX (v:=.int .i64 (A.used:Int)) H1 rfl ?_
 rw [aL]
 exact ⟨rfl,by trivial⟩
theorem zw (H:aG (bV b A::F) h):aE prog 75 [aM b] h fun v h'=>v=.int .i64 (A.steps:Int)∧h'=h:=by
 obtain ⟨q,hq,H1⟩:=cP H
 apply Eh.ap
 unfold IM
 rw [show (some (⟨b,0,none⟩:Addr)).isNone=false from rfl,ab]
 simp only [aK]
 refine dX (v:=.int .i64 (A.steps:Int)) H1 rfl ?_
 rw [aL]
 exact ⟨rfl,by trivial⟩
theorem zv (H:aG (bV b A::F) h):aE prog 76 [aM b] h fun v h'=>v=.bool (!A.off)∧h'=h:=by
 obtain ⟨q,hq,H1⟩:=cP H
 apply Eg.ap
 unfold IK
 rw [show (some (⟨b,0,none⟩:Addr)).isNone=false from rfl,aC,ae]
 simp only [aK]
 refine dX (v:=.bool A.off) H1 rfl ?_
 rw [bO]
 exact ⟨rfl,by trivial⟩
theorem zG {n:Int} (H:aG (bV b A::F) h):aE prog 57 [aM b,.int .i64 n] h fun v h'=>v=.int .i64 ((A.setFuse n).2:Int)∧aG (bV b (A.setFuse n).1::F) h':=by
 obtain ⟨q,hq,H1⟩:=cP H
 apply Ek.ap
 unfold IR AF.FS.setFuse
 rw [show (some (⟨b,0,none⟩:Addr)).isNone=false from rfl,ab]
 by_cases hn:n<0
 · rw [ah hn,ae,an hn];exact ⟨rfl,H⟩
 · rw [af hn,ab,am hn];simp only [aK,aP];refine ct (b:=b) (i:=3) (c':=#[.int .i64 (A.room:Int),.int .i64 (A.used:Int),.int .i64 (A.steps:Int),.int .i64 n,.bool A.off,.map (some q.md)]) H1 (by show 3<6; decide) rfl fun h1 H2=>?_;refine ⟨rfl,bu (A:={ A with fuse:=some n.toNat }) q hq ?_⟩;have e:dP (some n.toNat)=n:=by show ((n.toNat:Nat):Int)=n; omega
   show aG (iX b (A.room:Int) (A.used:Int) (A.steps:Int) (dP (some n.toNat)) A.off q.md::_) h1;rw [e];exact H2
end
structure sr (F:List aF) (ps:List Int) (a:Option Addr) (l c:Nat):Prop where
 len:ps.length=l
 cap:l≤c
 read:∀ h',aG F h'→cv h' a (ps.map iv)
abbrev lw (b0:Nat) (a:Option Addr) (l c:Nat):aF:=pt b0 (.cells #[.slice a l c] 27 (0,0))
section
variable {b:Nat} {A:AF.FS} {q:rp} {F G:List aF} {h:Heap}
theorem rH {b0 n:Nat} {ps:List Int} {a:Option Addr} {l c:Nat} (hn:n<4611686018427387904) (hp:sr F ps a l c) (hF:aG F h) (H:aG (lw b0 a l c::G) h) :
  aE prog 107 [.int .i64 (n:Int),aM b0] h fun v h'=>v=.int .i64 ((AF.pick ps n).1:Int)∧∃ a2 l2 c2,sr F (AF.pick ps n).2 a2 l2 c2∧aG (lw b0 a2 l2 c2::G) h':=by
 apply CH.ap
 unfold Hm
 refine gd (v:=.slice a l c) H.get rfl ?_
 rw [aI]
 have hl:=hp.len
 cases ps with
 | nil=>
   have:l=0:=hl.symm;subst this;rw [show (((0:Nat):Int)==0)=true from rfl,ae];exact ⟨rfl,a,0,c,hp,H⟩
 | cons p ps=>
   rw [ar] at hl;rw [kT (show l≠0 by omega),ab];refine gd (v:=.slice a l c) H.get rfl ?_;rw [aI];have hr:=hp.read h hF;refine bj (i:=0) (v:=iv p) hr (by rw [aq,ar]; exact hl) rfl fun ba hba hc=>⟨_,hc,?_⟩
   show DI .i64 (.int .i64 p) _;rw [aL];refine gd (v:=.slice a l c) H.get rfl ?_;rw [aI];have hcap:=hp.cap;refine dI (lo:=1) (hi:=l) (mx:=c) (by omega) hcap (ax _) ?_;rw [aP];refine sV H fun h1 H1=>?_;have w1:wrap .i64 ((n:Int)+1)=((n+1:Nat):Int):=aN (by omega);have w2:wrap .u64 ((n+1:Nat):Int)=((n+1:Nat):Int):=IntWalk.u64_in _ (by omega);rw [w1,w2];refine ⟨by omega,?_,fG a 1 c 1,l - 1,c - 1,⟨by show ps.length=l - 1; omega,by omega,fun h' hh=>?_⟩,H1⟩
   · have hu:∃ m:Nat,wrap .u64 p=(m:Int):=by
      rw [IntKind.wrap_u64];exact ⟨(p%18446744073709551616).toNat,by omega⟩
     obtain ⟨m,hm⟩:=hu;have hlt:m%(n+1)<n+1:=Nat.mod_lt m (Nat.succ_pos n);rw [hm,j8,dh (by omega)];show Value.int .i64 _=.int .i64 (((wrap .u64 p).toNat%(n+1):Nat):Int);rw [hm,Int.toNat_natCast]
   · have:=(hp.read h' hh).sub 1 (l - 1) c (by omega);have e:((List.map iv (p::ps)).drop 1).take (l - 1)=ps.map iv:=by
      rw [map_cons,List.drop_one,List.tail_cons,av (by rw [aq]; omega)]
     rw [e] at this;exact this
theorem CY (W:A.WF) (hq:lu A q) {i:Nat} {d:AF.cu} {fb:Nat} (hd:A.dirs[i]? = some d) (hf:q.fbs[i]? = some fb):pY q.m d.name=some (aM fb):=
 rZ (lJ W hq) ((jA hq).2 ⟨i,d,fb,hd,hf,rfl,rfl⟩)
theorem C1 {mb fb:Nat} {m:List (ByteArray×Value)} {k:ByteArray} {K:Option Addr→Prop} (H:aG (bT aS mb m::F) h) (hk:pY m k=some (aM fb)) (hK:K (some ⟨fb,0,none⟩)) :
  ∃ es:Array MapEntry,eR h (some mb) es∧∃ f,Instr.findNow .string (.string k) es.toList 0=some f∧DP ((Option.map (fun x=>x.2) f).getD (.pointer none)) K:=by
 obtain ⟨es,clock,hm,hes⟩:=gG H
 obtain ⟨f,hf,hl,_⟩:=hm.find k
 refine ⟨es,hes,f,hf,?_⟩
 rw [hl,hk]
 exact ⟨_,rfl,hK⟩
theorem mE (a:Option Addr) (mx sz:Nat):fG a 0 mx sz=a:=by
 unfold fG
 split
 · rfl
 · cases a with
   | none=>rfl
   | some a=>simp
theorem yD {e l c k:Nat} {a:Option Addr} {xs:List Value} (hk:k≤l) (H:aG (aQ e 1 a l c xs::F) h):aG (aQ e 1 a k c (xs.take k)::F) h:=by
 obtain ⟨hl,⟨rfl,rfl,rfl,rfl,H2⟩ | ⟨b',cells,fr,rfl,hlc,hcm,hcs,hfr,ht,H2⟩⟩:=dB H
 · have:k=0:=by omega
   subst this;exact bR e 1 H2
 · refine fe H2 hfr (by omega) hcm hcs ?_;rw [← ht,List.take_take,Nat.min_eq_left (by omega),Nat.mul_one]
theorem jD:∀ (ds es:List AF.cu) (l:List Int),AF.bW (ds++es) l=((AF.bW ds l).1++(AF.bW es (AF.bW ds l).2).1,(AF.bW es (AF.bW ds l).2).2)
 | [],es,l=>rfl
 | d::ds,es,l=>by
   rw [cons_append];simp only [AF.bW];rw [jD ds es]
   rfl
theorem i8:∀ (xs ys:List Nat) (fs:List AF.cV) (l:List Int),AF.cr (xs++ys) fs l=AF.cr ys (AF.cr xs fs l).1 (AF.cr xs fs l).2
 | [],ys,fs,l=>rfl
 | x::xs,ys,fs,l=>by
   rw [cons_append];simp only [AF.cr];rw [i8 xs ys]
theorem j3:∀ (ds:List AF.cu) (l:List Int),(AF.bW ds l).1.map (·.name)=ds.map (·.name)
 | [],l=>rfl
 | d::ds,l=>by simp only [AF.bW,map_cons]; rw [j3 ds]
def vg (d:AF.cu) (k:Nat):AF.cu:=⟨d.name,AF.gC d.base (d.pend.take k),AF.gC d.base (d.pend.take k),[]⟩
def eP (A:AF.FS) (ps:List Int) (i:Nat):List AF.cu:=(AF.bW (A.dirs.take i) ps).1++A.dirs.drop i
def fM (A:AF.FS) (ps:List Int) (i:Nat):List Int:=(AF.bW (A.dirs.take i) ps).2
theorem lK {ps:List Int} {i:Nat} {d:AF.cu} (hd:A.dirs[i]? = some d):(eP A ps i)[i]? = some d:=by
 have hi:=(ak.1 hd).1
 unfold eP
 rw [List.getElem?_append_right (by rw [AF.cU,au]; omega),AF.cU,au,getElem?_drop,← hd]
 congr 1
 omega
theorem nH {ps:List Int} {i:Nat} {d:AF.cu} (hd:A.dirs[i]? = some d) :
  eP A ps (i+1)=(eP A ps i).set i (vg d (AF.pick (fM A ps i) d.pend.length).1)∧fM A ps (i+1)=(AF.pick (fM A ps i) d.pend.length).2:=by
 have hi:=(ak.1 hd).1
 have ht:A.dirs.take (i+1)=A.dirs.take i++[d]:=by rw [az,hd]; rfl
 unfold eP fM
 rw [ht,jD]
 refine ⟨?_,rfl⟩
 have hdr:A.dirs.drop i=d::A.dirs.drop (i+1):=by
  rw [drop_eq_getElem_cons hi];congr 1;rw [ai hi] at hd;exact Option.some.inj hd
 rw [hdr,set_append_right _ _ (by rw [AF.cU,au]; omega),AF.cU,au,show i - min i A.dirs.length=0 by omega,List.set_cons_zero,append_assoc]
 rfl
end
section
variable {b:Nat} {A:AF.FS} {q:rp} {F:List aF} {h:Heap}
def bL (A:AF.FS) (ps:List Int) (xs:List Nat):List AF.cV×List Int:=AF.cr xs A.files (fM A ps A.dirs.length)
theorem pD (ps:List Int):(A.crash ps).dirs=eP A ps A.dirs.length:=by
 unfold AF.FS.crash eP
 rw [take_length,List.drop_length,append_nil]
theorem gZ (ps:List Int):(A.crash ps).files=(bL A ps (A.crash ps).idx).1:=by
 unfold bL fM
 rw [take_length]
 rfl
theorem nJ (ps:List Int):(A.crash ps).dirs.map (·.name)=A.dirs.map (·.name):=j3 A.dirs ps
theorem mq {ps:List Int} {xs:List Nat} {x:Nat} {y:AF.cV} (hy:(bL A ps xs).1[x]? = some y) :
  bL A ps (xs++[x])=((bL A ps xs).1.set x ⟨y.b.take (y.safe+(AF.pick (bL A ps xs).2 (y.b.length - y.safe)).1),y.safe+(AF.pick (bL A ps xs).2 (y.b.length - y.safe)).1⟩,(AF.pick (bL A ps xs).2 (y.b.length - y.safe)).2):=by
 have hg:(bL A ps xs).1.getD x default=y:=by rw [getD_eq_getElem?_getD,hy]; rfl
 have:bL A ps (xs++[x])=AF.cr [x] (bL A ps xs).1 (bL A ps xs).2:=by unfold bL; rw [i8]
 rw [this]
 simp only [AF.cr,hg]
theorem pp (W:A.WF) (ps:List Int) (xs:List Nat):∀ y∈(bL A ps xs).1,AF.ky y:=AF.jg W.files
theorem fk (ps:List Int) (xs:List Nat):(bL A ps xs).1.length=A.files.length:=AF.ff _ _ _
theorem wS (hq:lu A q) (ps:List Int):lu (A.crash ps) q:=pj hq (nJ ps) (by rw [gZ,fk])
abbrev s9 (b:Nat) (A:AF.FS) (q:rp):aF:=cA b A q.md
theorem yr {B:aF} {L:List aF} (H:aG (B::(L++F)) h):aG (B::bP L::F) h:=let ⟨r,hr,hs⟩:=H; ⟨r,cY (fun _ h=>h) (fun _ h=>bQ.1 h) hr,hs⟩
theorem Ap {xbs:List Nat} {bb n j:Nat} {l:AF.bG} {os:List AF.Op} {vs:List Value} {o:AF.Op} {v:Value} (hl:vs.length=os.length) (ho:os[j]? = some o) (hv:vs[j]? = some v)
  (H:aG (co xbs bb l::bP (zipWith (lF xbs) os vs)::F) h) (hk:AF.Ok n l) (hf:AF.Fits n l o) :
  du prog v [.map (some bb)] h fun r h'=>r=.tuple #[]∧aG (co xbs bb (AF.does l o)::bP (zipWith (lF xbs) os vs)::F) h':=by
 have H2:=gU (H.mv 1) ho hv
 refine (vC (H2.ordT 3 [2,0,1]) hk hf).mono ?_
 rintro r h' ⟨rfl,H3⟩
 exact ⟨rfl,(qK ho hv (H3.ordT 3 [1,2,0])).mv 1⟩
theorem zF {ps:List Int} {pa:Option Addr} {pl pc:Nat} (W:A.WF) (hp:sr F ps pa pl pc) (hs:A.steps<1099511627776) (H:aG (bV b A::F) h) :
  aE prog 58 [aM b,.slice pa pl pc] h fun v h'=>v=.int .i64 0∧aG (bV b (A.crash ps)::F) h':=by
 obtain ⟨q,hq,H0⟩:=cP H
 have W2:=W.crash ps
 have hq2:=wS hq ps
 have hfew:=W.few
 apply Ej.ap
 unfold IQ
 refine aW H0 fun b0 h1 H1=>?_
 rw [show (some (⟨b,0,none⟩:Addr)).isNone=false from rfl,ab]
 refine (sA W hq (H1.bk 4)).mono ?_
 rintro v h2 ⟨na,nc,rfl,H2⟩
 rw [aI]
 refine ⟨fun st hh=>∃ i,st=((i:Nat):Int)∧i≤A.dirs.length∧∃ (a:Option Addr) (l c:Nat),sr F (fM A ps i) a l c∧
   aG (lw b0 a l c::aQ 9 1 na A.dirs.length nc ((A.dirs.map (·.name)).map Value.string)::s9 b A q::bT aS q.md q.m::bY q.xbs A.files::cQ q.xbs q.fbs (eP A ps i)::F) hh,
  fun st _=>((A.dirs.length:Int) - st).toNat,⟨0,rfl,aw _,pa,pl,pc,hp,H2.ordT 6 [5,0,1,2,3,4]⟩,?_⟩
 rintro st h3 ⟨i,rfl,hi,a,l,c,hpk,H3⟩
 by_cases hlt:i<A.dirs.length
 · rw [ah (show ((i:Int)<(A.dirs.length:Int)) by omega),ae];obtain ⟨d,hdi⟩:∃ d,A.dirs[i]? = some d:=⟨_,ai hlt⟩
   obtain ⟨fb,hfi⟩:=yX hq hdi;have w:=W.each d (aj hdi);have hpl:=w.pend;have hnm:((A.dirs.map (·.name)).map Value.string)[i]? = some (.string d.name):=by rw [List.getElem?_map,List.getElem?_map,hdi]; rfl
   refine bj (v:=.string d.name) (aH (H3.mv 1)) (by rw [aq,aq]) hnm fun ba hba hc=>⟨_,hc,?_⟩
   show DS (.string d.name) _;rw [aT];simp only [aK,aP];refine dX (b:=b) (v:=.map (some q.md)) (H3.mv 2) rfl ?_;rw [cM];refine C1 (H3.mv 3) (CY W hq hdi hfi) ?_;simp only [aK,aP];obtain ⟨nb,bb,oa,oc,H4⟩:=i7 (H3.mv 5) (lK hdi) hfi;refine dX (b:=fb) (i:=2) (v:=.slice oa d.pend.length oc) H4 rfl ?_;rw [aI];refine dX (b:=fb) (i:=2) (v:=.slice oa d.pend.length oc) H4 rfl ?_;rw [aI];refine (rH (n:=d.pend.length) (by omega) hpk (H4.rest 10) (H4.mv 5)).mono ?_;rintro v h4 ⟨rfl,a2,l2,c2,hpk2,H5⟩;rw [aL];refine ⟨rfl,rfl,rfl,?_⟩;refine ⟨dX (b:=fb) (i:=2) (v:=.slice oa d.pend.length oc) (H5.mv 1) rfl (by rw [aI]; rfl),rfl,?_⟩;have hple:=AF.l7 (fM A ps i) d.pend.length;generalize hk:(AF.pick (fM A ps i) d.pend.length).1=k at hple;have hol:=me (H5.mv 4);refine dI (lo:=0) (hi:=k) (mx:=oc) (aw _) (by omega) (ax _) ?_;rw [mE,Nat.sub_zero];obtain ⟨vs,hvl,H6⟩:=im (H5.mv 4);have H7:aG (bP (zipWith (lF q.xbs) d.pend vs)::aQ 182 1 oa d.pend.length oc vs::lw b0 a2 l2 c2::pt fb (li nb bb oa d.pend.length oc)::co q.xbs nb d.now::co q.xbs bb d.base::lM q.xbs q.fbs (eP A ps i) i::
    aQ 9 1 na A.dirs.length nc ((A.dirs.map (·.name)).map Value.string)::s9 b A q::bT aS q.md q.m::bY q.xbs A.files::F) h4:=by
    have K:aG (aQ 182 1 oa d.pend.length oc vs::bP (zipWith (lF q.xbs) d.pend vs)::_) h4:=yr H6;exact K.mv 1
   refine ⟨fun st hh=>∃ j,st=((j:Nat):Int)∧j≤k∧aG (bP (zipWith (lF q.xbs) d.pend vs)::aQ 182 1 oa d.pend.length oc vs::lw b0 a2 l2 c2::pt fb (li nb bb oa d.pend.length oc)::co q.xbs nb d.now::co q.xbs bb (AF.gC d.base (d.pend.take j))::lM q.xbs q.fbs (eP A ps i) i::
    aQ 9 1 na A.dirs.length nc ((A.dirs.map (·.name)).map Value.string)::s9 b A q::bT aS q.md q.m::bY q.xbs A.files::F) hh,
    fun st _=>((k:Int) - st).toNat,⟨0,rfl,aw _,H7⟩,?_⟩
   rintro st h5 ⟨j,rfl,hj,H8⟩;by_cases hjk:j<k
   · rw [ah (show ((j:Int)<(k:Int)) by omega),ae];obtain ⟨o,ho⟩:∃ o,d.pend[j]? = some o:=⟨_,ai (by omega)⟩
     obtain ⟨v,hv⟩:∃ v,vs[j]? = some v:=⟨_,ai (by omega)⟩
     have hrd:cv h5 oa (vs.take k):=by
      have:=(aH (H8.mv 1)).sub 0 k oc (by omega)
      rwa [mE,drop_zero] at this
     refine bj (v:=v) hrd (by rw [au]; omega) (by rw [getElem?_take,an hjk]; exact hv) fun ba2 hba2 hc2=>⟨_,hc2,?_⟩
     refine ⟨v,rfl,?_⟩;refine dX (b:=fb) (i:=1) (v:=.map (some bb)) (H8.mv 3) rfl ?_;rw [cM];obtain ⟨hok,hfit⟩:=w.runs.at j ho;refine (Ap hvl ho hv (H8.ordT 11 [5,0,1,2,3,4,6,7,8,9,10]) hok hfit).mono ?_;rintro r h6 ⟨rfl,H9⟩;refine ⟨rfl,⟨j+1,aN (by omega),by omega,?_⟩,?_⟩
     · have e:AF.gC d.base (d.pend.take (j+1))=AF.does (AF.gC d.base (d.pend.take j)) o:=by
        rw [az,ho];exact AF.mK _ _ _
       rw [e];exact H9.ordT 11 [1,2,3,4,5,0,6,7,8,9,10]
     · rw [aN (by omega)];show ((k:Int) - ((j+1:Nat):Int)).toNat<((k:Int) - (j:Int)).toNat;omega
   · have ejk:j=k:=by omega
     subst ejk;rw [af (by omega),ab];refine dX (b:=fb) (i:=1) (v:=.map (some bb)) (H8.mv 3) rfl ?_;rw [cM];obtain ⟨m2,hp2,H9⟩:=eN (H8.mv 5);refine (nd H9).mono ?_;rintro v h6 ⟨cb,rfl,H10⟩;rw [cM];have H11:aG (pt fb (li nb bb oa d.pend.length oc)::bT aS cb m2::bT aS bb m2::lM q.xbs q.fbs (eP A ps i) i::lw b0 a2 l2 c2::aQ 9 1 na A.dirs.length nc ((A.dirs.map (·.name)).map Value.string)::s9 b A q::bT aS q.md q.m::bY q.xbs A.files::F) h6:=
      H10.ordT 12 [5,0,1,7,4,8,9,10,11]
     refine ct (b:=fb) (i:=0) (c':=#[.map (some cb),.map (some bb),.slice oa d.pend.length oc]) H11 (by show 0<3; decide) rfl fun h7 H12=>?_;refine ct (b:=fb) (i:=2) (c':=#[.map (some cb),.map (some bb),.slice none 0 0]) H12 (by show 2<3; decide) rfl fun h8 H13=>?_;have H14:=cR hp2 (H13.mv 1);have H15:=cR hp2 (H14.mv 2);have H16:=jv (lF q.xbs) 182 H15;have H17:aG (cQ q.xbs q.fbs ((eP A ps i).set i (vg d j))::lw b0 a2 l2 c2::aQ 9 1 na A.dirs.length nc ((A.dirs.map (·.name)).map Value.string)::s9 b A q::bT aS q.md q.m::bY q.xbs A.files::F) h8:=
      lL (d:=vg d j) (a:=none) (c:=0) (lK hdi) hfi (H16.ordT 5 [3,2,1,0,4])
     obtain ⟨en1,en2⟩:=nH (ps:=ps) hdi;rw [hk] at en1;rw [← en1] at H17;rw [← en2] at hpk2;refine ⟨⟨i+1,aN (by omega),by omega,a2,l2,c2,hpk2,H17.ordT 6 [1,2,3,4,5,0]⟩,?_⟩;rw [aN (by omega)];show ((A.dirs.length:Int) - ((i+1:Nat):Int)).toNat<((A.dirs.length:Int) - (i:Int)).toNat;omega
 · have ei:i=A.dirs.length:=by omega
   subst ei;rw [af (by omega),ab];rw [← pD] at H3;have hlen2:(A.crash ps).dirs.length=A.dirs.length:=by have:=congrArg List.length (nJ (A:=A) ps); simpa using this
   refine (sA W2 hq2 (H3.ordT 6 [2,3,4,5,0])).mono ?_;rintro v h4 ⟨na2,nc2,rfl,H4⟩;rw [aI];have idxTo:∀ i,List Nat:=fun i=>((A.crash ps).dirs.take i).flatMap fun d=>d.now.map (·.2);refine ⟨fun st hh=>∃ i,st=((i:Nat):Int)∧i≤(A.crash ps).dirs.length∧∃ (a:Option Addr) (l c:Nat),sr F (bL A ps (((A.crash ps).dirs.take i).flatMap fun d=>d.now.map (·.2))).2 a l c∧
    aG (lw b0 a l c::aQ 9 1 na2 (A.crash ps).dirs.length nc2 (((A.crash ps).dirs.map (·.name)).map Value.string)::s9 b A q::bT aS q.md q.m::bY q.xbs (bL A ps (((A.crash ps).dirs.take i).flatMap fun d=>d.now.map (·.2))).1::cQ q.xbs q.fbs (A.crash ps).dirs::F) hh,
    fun st _=>(((A.crash ps).dirs.length:Int) - st).toNat,⟨0,rfl,aw _,a,l,c,hpk,H4.ordT 6 [5,0,1,2,3,4]⟩,?_⟩
   rintro st h5 ⟨i,rfl,hi2,a3,l3,c3,hpk3,H5⟩;by_cases hlt2:i<(A.crash ps).dirs.length
   · rw [ah (show ((i:Int)<((A.crash ps).dirs.length:Int)) by omega),ae];obtain ⟨d,hdi⟩:∃ d,(A.crash ps).dirs[i]? = some d:=⟨_,ai hlt2⟩
     obtain ⟨fb,hfi⟩:=yX hq2 hdi;have w:=W2.each d (aj hdi);have hnm:(((A.crash ps).dirs.map (·.name)).map Value.string)[i]? = some (.string d.name):=by rw [List.getElem?_map,List.getElem?_map,hdi]; rfl
     refine bj (v:=.string d.name) (aH (H5.mv 1)) (by rw [aq,aq]) hnm fun ba hba hc=>⟨_,hc,?_⟩
     show DS (.string d.name) _;rw [aT];simp only [aK,aP];refine dX (b:=b) (v:=.map (some q.md)) (H5.mv 2) rfl ?_;rw [cM];refine C1 (H5.mv 3) (CY W2 hq2 hdi hfi) ?_;simp only [aK,aP];obtain ⟨nb,bb,oa,oc,H6⟩:=i7 (H5.mv 5) hdi hfi;refine gd (v:=.map (some nb)) H6.get rfl ?_;rw [cM];refine (rF H6).mono ?_;rintro v h6 ⟨cb,rfl,H7⟩;refine ⟨_,rfl,?_⟩;obtain ⟨m2,hp2,H8⟩:=eN (H7.mv 2);have hml:m2.length=d.now.length:=by rw [hp2.length_eq,aq]
     have hfew2:=w.ok.few;refine (rG (H8.mv 1) (by omega)).mono ?_;rintro v h7 ⟨ka,kc,rfl,H9⟩;rw [aI];have ek:hY (m2.map (·.1))=d.now.map (·.1):=by
      rw [fP (hp2.map (·.1)),pv,ow (sK w.ok.up)]
     rw [ek,hml] at H9;rw [hml];have H10:=cR hp2 (H9.mv 1);have H11:=lL (d:=d) hdi hfi (H10.ordT 11 [2,0,3,4,5,1,6,7,8,9,10]);rw [jp hdi] at H11;have hdt:((A.crash ps).dirs.take (i+1)).flatMap (fun d:AF.cu=>d.now.map (·.2))=((A.crash ps).dirs.take i).flatMap (fun d:AF.cu=>d.now.map (·.2))++d.now.map (·.2):=by
      rw [az,hdi,flatMap_append];simp
     generalize hxs:((A.crash ps).dirs.take i).flatMap (fun d:AF.cu=>d.now.map (·.2))=xs at hpk3 H11 hdt;have ex0:xs++(d.now.take 0).map (·.2)=xs:=by simp
     refine ⟨fun st hh=>∃ j,st=((j:Nat):Int)∧j≤d.now.length∧∃ (a:Option Addr) (l c:Nat),sr F (bL A ps (xs++(d.now.take j).map (·.2))).2 a l c∧
      aG (lw b0 a l c::aQ 9 1 ka d.now.length kc ((d.now.map (·.1)).map Value.string)::aQ 9 1 na2 (A.crash ps).dirs.length nc2 (((A.crash ps).dirs.map (·.name)).map Value.string)::s9 b A q::bT aS q.md q.m::
       bY q.xbs (bL A ps (xs++(d.now.take j).map (·.2))).1::cQ q.xbs q.fbs (A.crash ps).dirs::F) hh,
      fun st _=>((d.now.length:Int) - st).toNat,⟨0,rfl,aw _,a3,l3,c3,by rw [ex0]; exact hpk3,by rw [ex0]; exact H11.ordT 7 [2,1,3,4,5,6,0]⟩,?_⟩
     rintro st h8 ⟨j,rfl,hj,a4,l4,c4,hpk4,H12⟩;by_cases hjl:j<d.now.length
     · rw [ah (show ((j:Int)<(d.now.length:Int)) by omega),ae];obtain ⟨p,hpj⟩:∃ p,d.now[j]? = some p:=⟨_,ai hjl⟩
       have hpm:=aj hpj;have hnm2:((d.now.map (·.1)).map Value.string)[j]? = some (.string p.1):=by rw [List.getElem?_map,List.getElem?_map,hpj]; rfl
       refine bj (v:=.string p.1) (aH (H12.mv 1)) (by rw [aq,aq]) hnm2 fun ba2 hba2 hc2=>⟨_,hc2,?_⟩
       show DS (.string p.1) _;rw [aT];obtain ⟨nb2,bb2,a5,c5,es,hfb,hes,hsz,hlk⟩:=ku (H12.mv 6) hdi hfi w.ok.up;refine ⟨.map (some nb2),by rw [cm hfb]; rfl,?_⟩;show DM (.map (some nb2)) _;rw [cM];obtain ⟨f,hf,hl⟩:=hlk p.1;refine ⟨es,hes,f,hf,jZ hl ?_⟩;rw [AF.uN w.ok.up.nodup (f:=p.2) hpm];have hx2:p.2<(A.crash ps).files.length:=(w.ok.each p hpm).1;have hx3:p.2<(bL A ps (xs++(d.now.take j).map (·.2))).1.length:=by
        rw [fk];rw [gZ,fk] at hx2;exact hx2
       obtain ⟨_,xb,_,hxb,hgd⟩:=vr hq2 hx2;obtain ⟨y,hy⟩:∃ y,(bL A ps (xs++(d.now.take j).map (·.2))).1[p.2]? = some y:=⟨_,ai hx3⟩
       obtain ⟨yo1,yo2,_⟩:=pp W ps _ y (aj hy);show aR (some ⟨q.xbs.getD p.2 0,0,none⟩) _;rw [hgd];simp only [Option.map_some,aK,aP,hgd];obtain ⟨ya,yc,H13⟩:=kn (H12.mv 5) hy hxb;refine gd (v:=.slice ya y.b.length yc) H13.get rfl ?_;rw [aI];refine dX (b:=xb) (i:=1) (v:=.int .i64 (y.safe:Int)) H13 rfl ?_;rw [aL];refine gd (v:=.slice ya y.b.length yc) H13.get rfl ?_;rw [aI];refine dX (b:=xb) (i:=1) (v:=.int .i64 (y.safe:Int)) H13 rfl ?_;rw [aL];have w1:wrap .i64 ((y.b.length:Int) - (y.safe:Int))=((y.b.length - y.safe:Nat):Int):=by
        rw [IntWalk.i64_in _ (by omega)];omega
       rw [w1];refine (rH (n:=y.b.length - y.safe) (by omega) hpk4 (H13.rest 9) (H13.mv 3)).mono ?_;rintro v h9 ⟨rfl,a6,l6,c6,hpk6,H14⟩;rw [aL];refine ⟨rfl,rfl,rfl,rfl,gd (v:=.slice ya y.b.length yc) (H14.mv 1).get rfl (by rw [aI]; rfl),rfl,rfl,rfl,dX (b:=xb) (i:=1) (v:=.int .i64 (y.safe:Int)) (H14.mv 1) rfl (by rw [aL]; rfl),?_⟩;have hple:=AF.l7 (bL A ps (xs++(d.now.take j).map (·.2))).2 (y.b.length - y.safe);obtain hnext:=mq hy;generalize hk:(AF.pick (bL A ps (xs++(d.now.take j).map (·.2))).2 (y.b.length - y.safe)).1=k at hple hnext;rw [← Int.natCast_add,dh (by omega)];have hyl:=dA (H14.mv 2);rw [aq] at hyl;refine dI (lo:=0) (hi:=y.safe+k) (mx:=yc) (aw _) (by omega) (ax _) ?_;rw [mE,Nat.sub_zero,Nat.sub_zero];have H15:=yD (k:=y.safe+k) (by omega) (H14.mv 2);rw [← map_take] at H15;refine ct (b:=xb) (i:=0) (c':=#[.slice ya (y.safe+k) yc,.int .i64 (y.safe:Int)]) (H15.mv 2) (by show 0<2; decide) rfl fun h10 H16=>?_;refine dX (b:=xb) (i:=0) (v:=.slice ya (y.safe+k) yc) H16 rfl ?_;rw [aI];refine ct (b:=xb) (i:=1) (c':=#[.slice ya (y.safe+k) yc,.int .i64 ((y.safe+k:Nat):Int)]) H16 (by show 1<2; decide) rfl fun h11 H17=>?_;have etl:(y.b.take (y.safe+k)).length=y.safe+k:=by rw [au]; omega
       have H18:aG (pt xb (pu ya (y.b.take (y.safe+k)).length yc (y.safe+k))::aQ 5 1 ya (y.b.take (y.safe+k)).length yc ((y.b.take (y.safe+k)).map nv)::pq q.xbs (bL A ps (xs++(d.now.take j).map (·.2))).1 p.2::lw b0 a6 l6 c6::
        aQ 9 1 ka d.now.length kc ((d.now.map (·.1)).map Value.string)::aQ 9 1 na2 (A.crash ps).dirs.length nc2 (((A.crash ps).dirs.map (·.name)).map Value.string)::s9 b A q::bT aS q.md q.m::cQ q.xbs q.fbs (A.crash ps).dirs::F) h11:=by
        rw [etl];exact H17.ordT 9 [0,1,3,2,4,5,6,7,8]
       have H19:=mr (y:=⟨y.b.take (y.safe+k),y.safe+k⟩) hy hxb H18;have ejs:(d.now.take (j+1)).map (·.2)=(d.now.take j).map (·.2)++[p.2]:=by
        rw [az,hpj];simp
       have en:bL A ps (xs++(d.now.take (j+1)).map (·.2))=((bL A ps (xs++(d.now.take j).map (·.2))).1.set p.2 ⟨y.b.take (y.safe+k),y.safe+k⟩,(AF.pick (bL A ps (xs++(d.now.take j).map (·.2))).2 (y.b.length - y.safe)).2):=by
        rw [ejs,← append_assoc];exact hnext
       refine ⟨⟨j+1,aN (by omega),by omega,a6,l6,c6,by rw [en]; exact hpk6,?_⟩,?_⟩
       · rw [en];exact H19.ordT 7 [1,2,3,4,5,0,6]
       · rw [aN (by omega)];show ((d.now.length:Int) - ((j+1:Nat):Int)).toNat<((d.now.length:Int) - (j:Int)).toNat;omega
     · have ejl:j=d.now.length:=by omega
       subst ejl;rw [af (by omega),ab];rw [take_length] at H12 hpk4;rw [← hdt] at H12 hpk4;refine ⟨⟨i+1,aN (by omega),by omega,a4,l4,c4,hpk4,H12.ordT 7 [0,2,3,4,5,6]⟩,?_⟩;rw [aN (by omega)];show (((A.crash ps).dirs.length:Int) - ((i+1:Nat):Int)).toNat<(((A.crash ps).dirs.length:Int) - (i:Int)).toNat;omega
   · have ei2:i=(A.crash ps).dirs.length:=by omega
     subst ei2;rw [af (by omega),ab];rw [take_length] at H5;have efs:(bL A ps ((A.crash ps).dirs.flatMap fun d=>d.now.map (·.2))).1=(A.crash ps).files:=(gZ ps).symm;rw [efs] at H5;simp only [aK,aP];refine ct (b:=b) (i:=4) (c':=#[.int .i64 (A.room:Int),.int .i64 (A.used:Int),.int .i64 (A.steps:Int),.int .i64 (dP A.fuse),.bool false,.map (some q.md)]) (H5.mv 2) (by show 4<6; decide) rfl fun h6 H6=>?_;refine ct (b:=b) (i:=3) (c':=#[.int .i64 (A.room:Int),.int .i64 (A.used:Int),.int .i64 (A.steps:Int),.int .i64 (-1),.bool false,.map (some q.md)]) H6 (by show 3<6; decide) rfl fun h7 H7=>?_;refine (m9 (A:=A.crash ps) (room:=(A.room:Int)) (used0:=(A.used:Int)) (steps:=(A.steps:Int)) (fuse := -1) (off:=false) W2 hq2 (H7.ordT 6 [0,3,4,5])).mono ?_;rintro v h8 ⟨rfl,H8⟩;exact ⟨by trivial,by trivial,bu q hq2 H8⟩
end
end Go.Proofs.YtdpaiiibndnanaaGreatDoor
