/- Append,Sync,SyncDir. Rename,Remove,Read,List,Dirs,and what is told at once. Crash. Crash: the calls themselves. -/
import Derived.Test.YtibdiikcigokjaaGreatPyFsC
import Derived.Test.YtibdiikcigokjaaGreatPyFsA
namespace Go.Proofs.YtibdiikcigokjaaGreat
open Go.IntKind (wrap)
open Go.Proofs.Tryz (prog)
open List (getD_eq_getElem?_getD append_assoc getElem?_map map_take drop_zero getElem?_take pairwise_mergeSort mergeSort_perm le_antisymm pairwise_map map_cons flatMap_append append_nil length_modify map_congr_left zipWith map_map nil_append cons_append getElem?_drop drop_eq_getElem_cons take_length)
open Go Go.RowKit Go.MapKept
set_option linter.unusedVariables false
set_option linter.unusedSimpArgs false
theorem Kt:prog.underlying 35=some (.slice 5):=by kernel_rfl
theorem Hr:fF prog 35=true:=by kernel_rfl
theorem KY:gQ prog 5 1=true:=by kernel_rfl
def qW (a:Option Addr) (l c s:Nat):Obj:=.cells #[.slice a l c,.int .i64 (s:Int)] 140 (0,0)
def qV (xbs:List Nat) (fs:List AF.dB) (x:Nat):aG:=rH wr fs xbs x
section
variable {b:Nat} {A:AF.FS} {q:tp} {F:List aG} {h:Heap}
theorem lH {xbs:List Nat} {fs:List AF.dB} {x:Nat} {y:AF.dB} {xb:Nat} (H:aD (cj xbs fs::F) h) (hx:fs[x]? = some y) (hb:xbs[x]? = some xb) :
  ∃ (a:Option Addr) (c:Nat),aD (pt xb (qW a y.b.length c y.safe)::aL 5 1 a y.b.length c (y.b.map nv)::qV xbs fs x::F) h:=by
 obtain ⟨r,H2⟩:=bw.1 (iw H hx hb)
 exact ⟨r.1,r.2,H2.open⟩
theorem n7 {xbs:List Nat} {fs:List AF.dB} {x:Nat} {y y':AF.dB} {xb c:Nat} {a:Option Addr} (hx:fs[x]? = some y') (hb:xbs[x]? = some xb)
  (H:aD (pt xb (qW a y.b.length c y.safe)::aL 5 1 a y.b.length c (y.b.map nv)::qV xbs fs x::F) h):aD (cj xbs (fs.set x y)::F) h:=by
 refine ur hb (aj.1 hx).1 (bw.2 ⟨(a,c),?_⟩)
 exact aD.shut (m:=[pt xb (qW a y.b.length c y.safe),aL 5 1 a y.b.length c (y.b.map nv)]) H
theorem qR (hq:mE A q) (x:Nat) (g:AF.dB→AF.dB):mE (A.setFile x g) q:=qQ hq rfl (length_modify ..)
theorem zD (W:A.WF) {x:Nat} {g:AF.dB→AF.dB} (hg:∀ y,(g y).b=y.b):(A.setFile x g).used=A.used:=by
 unfold AF.FS.used
 congr 1
 apply map_congr_left
 intro y hy
 rw [AF.mm]
 split
 · rw [hg]
 · rfl
theorem wT {dir name:ByteArray} {ba:Option Addr} {bl bc:Nat} {bs:List Nat} (W:A.WF) (hs:A.steps<1099511627776) (hd:dir.size<4611686018427387904) (hn:name.size<4611686018427387904)
  (hr:∀ h',aD F h'→dw h' ba (bs.map nv)) (hl:bs.length=bl) (hlb:bl<4611686018427387904) (H:aD (cg b A::F) h) :
  aC prog 80 [aJ b,.string dir,.string name,.slice ba bl bc] h fun v h'=>v=.int .i64 ((A.append dir name bs).2:Int)∧aD (cg b (A.append dir name bs).1::F) h':=by
 obtain ⟨q,hq,H0⟩:=dr H
 apply I2.ap
 unfold NP
 refine (mp W hq H0 hd hn).mono ?_
 rintro v h1 ⟨H1,⟨i,x,d,y,fb,xb,he,hdi,hfi,hy,hxb,rfl⟩ | ⟨e,he,e0,rfl⟩⟩
 · refine ⟨_,some ⟨xb,0,none⟩,0,rfl,?_⟩;rw [show ((0:Int)!=0)=false from rfl,aa];simp only [aV,aS];obtain ⟨ya,yc,hyb,_⟩:=sU (H1.mv 2) hy hxb;refine fW (v:=.slice ya y.b.length yc) hyb rfl ?_;have hX:=AF.re hy;have wy:=W.files y (ai hy);have hu:=W.used_le;rw [aF,← Int.natCast_add,cv (by omega)];by_cases hlong:16777216<y.b.length+bl
   · rw [af (show (((y.b.length+bl:Nat):Int)>16777216) by omega),ab];have e:A.append dir name bs=(A,67):=by
      unfold AF.FS.append;rw [he];simp only [hX,hl,al hlong]
     rw [e];exact ⟨rfl,bA q hq H1⟩
   · rw [ae (show ¬ (((y.b.length+bl:Nat):Int)>16777216) by omega),aa];refine eU (i:=1) (v:=.int .i64 (A.used:Int)) H1 rfl ?_;rw [aK];refine eU (i:=0) (v:=.int .i64 (A.room:Int)) H1 rfl ?_;rw [aK,← Int.natCast_add,cv (by omega)];by_cases hfull:A.room<A.used+bl
     · rw [af (show (((A.used+bl:Nat):Int)>(A.room:Int)) by omega),ab];have e:A.append dir name bs=(A,64):=by
        unfold AF.FS.append;rw [he];simp only [hX,hl,ak hlong,al hfull]
       rw [e];exact ⟨rfl,bA q hq H1⟩
     · rw [ae (show ¬ (((A.used+bl:Nat):Int)>(A.room:Int)) by omega),aa];have e:A.append dir name bs=A.step fun g=>g.setFile x fun y=>{ y with b:=y.b++bs }:=by
        unfold AF.FS.append;rw [he];simp only [hX,hl,ak hlong,ak hfull]
       rw [e];refine (jY W hs H1).mono ?_;rintro v h2 (⟨h0,rfl,H2⟩ | ⟨h0,rfl,H2⟩)
       · rw [aK,show ((60:Int)!=0)=true from rfl,ab];unfold AF.FS.step;rw [al h0];exact ⟨rfl,bA (A:={ A with off:=true }) q hq H2⟩
       · rw [aK,show ((0:Int)!=0)=false from rfl,aa];unfold AF.FS.step;rw [ak h0];obtain ⟨a,c,H3⟩:=lH (H2.mv 2) hy hxb;refine fW (v:=.slice a y.b.length c) H3.get rfl ?_;rw [aF];have H4:aD (aL 5 1 a y.b.length c (y.b.map nv)::pt xb (qW a y.b.length c y.safe)::qV q.xbs A.files x::cM b A.stepOn q.md::bF aN q.md q.m::du q.xbs q.fbs A.dirs::F) h2:=H3.mv 1;have hrd:=hr h2 (((((H4.drop).drop).drop).drop).drop).drop;refine oX (ys:=bs) Kt Hr KY H4 (rz hrd hl) (by omega) fun a2 c2 h3 _ H5=>?_;rw [aF];refine cd (b:=xb) (i:=0) (c':=#[.slice a2 (y.b.length+bl) c2,.int .i64 (y.safe:Int)]) (H5.mv 1) (by show 0<2; decide) rfl fun h4 H6=>?_;refine eU (i:=1) (v:=.int .i64 (A.used:Int)) (H6.mv 3) rfl ?_;rw [aK,← Int.natCast_add,cv (by omega)];refine cd (b:=b) (i:=1) (c':=#[.int .i64 (A.room:Int),.int .i64 ((A.used+bl:Nat):Int),.int .i64 (A.stepOn.steps:Int),.int .i64 (eK A.stepOn.fuse),.bool A.off,.map (some q.md)]) (H6.mv 3) (by show 1<6; decide) rfl fun h5 H7=>?_;refine ⟨rfl,bA q (qR (A:=A.stepOn) hq x _) ?_⟩;have el:(y.b++bs).length=y.b.length+bl:=by rw [am,hl]
         have H8:aD (pt xb (qW a2 (y.b++bs).length c2 y.safe)::aL 5 1 a2 (y.b++bs).length c2 ((y.b++bs).map nv)::qV q.xbs A.files x::
          jy b (A.room:Int) ((A.used+bl:Nat):Int) (A.stepOn.steps:Int) (eK A.stepOn.fuse) A.off q.md::bF aN q.md q.m::du q.xbs q.fbs A.dirs::F) h5:=by
          rw [el];exact H7.ordT 6 [1,2,3,0,4,5]
         have H9:=n7 (y:=⟨y.b++bs,y.safe⟩) hy hxb H8;have e3:A.files.set x ⟨y.b++bs,y.safe⟩=(A.stepOn.setFile x fun y=>{ y with b:=y.b++bs }).files:=(dz (l:=A.files) (fun y:AF.dB=>{ y with b:=y.b++bs }) hy).symm;rw [e3] at H9;have eu:=W.stepOn.used_append (x:=x) (AF.Ap he) bs;have eu2:(A.stepOn.setFile x fun y=>{ y with b:=y.b++bs }).used=A.used+bl:=by rw [eu,hl]; rfl
         unfold cM;rw [eu2];exact H9.ordT 4 [1,2,0,3]
 · refine ⟨none,none,(e:Int),rfl,?_⟩;rw [bm e0,ab];unfold AF.FS.append;rw [he];exact ⟨rfl,bA q hq H1⟩
theorem wS {dir name:ByteArray} (W:A.WF) (hs:A.steps<1099511627776) (hd:dir.size<4611686018427387904) (hn:name.size<4611686018427387904) (H:aD (cg b A::F) h) :
  aC prog 81 [aJ b,.string dir,.string name] h fun v h'=>v=.int .i64 ((A.sync dir name).2:Int)∧aD (cg b (A.sync dir name).1::F) h':=by
 obtain ⟨q,hq,H0⟩:=dr H
 apply I1.ap
 unfold NO
 refine (mp W hq H0 hd hn).mono ?_
 rintro v h1 ⟨H1,⟨i,x,d,y,fb,xb,he,hdi,hfi,hy,hxb,rfl⟩ | ⟨e,he,e0,rfl⟩⟩
 · refine ⟨_,some ⟨xb,0,none⟩,0,rfl,?_⟩;rw [show ((0:Int)==0)=true from rfl,ab];have e:A.sync dir name=A.step fun g=>g.setFile x fun y=>{ y with safe:=y.b.length }:=by
    unfold AF.FS.sync;rw [he]
   rw [e];refine (jY W hs H1).mono ?_;rintro v h2 (⟨h0,rfl,H2⟩ | ⟨h0,rfl,H2⟩)
   · rw [aK,show ((60:Int)==0)=false from rfl,aa];unfold AF.FS.step;rw [al h0];exact ⟨rfl,bA (A:={ A with off:=true }) q hq H2⟩
   · rw [aK,show ((0:Int)==0)=true from rfl,ab];simp only [aV,aS];unfold AF.FS.step;rw [ak h0];obtain ⟨a,c,H3⟩:=lH (H2.mv 2) hy hxb;refine fW (v:=.slice a y.b.length c) H3.get rfl ?_;rw [aF];refine cd (b:=xb) (i:=1) (c':=#[.slice a y.b.length c,.int .i64 (y.b.length:Int)]) H3 (by show 1<2; decide) rfl fun h3 H4=>?_;refine ⟨rfl,bA q (qR (A:=A.stepOn) hq x _) ?_⟩;have H5:=n7 (y:=⟨y.b,y.b.length⟩) hy hxb H4;have e3:A.files.set x ⟨y.b,y.b.length⟩=(A.stepOn.setFile x fun y=>{ y with safe:=y.b.length }).files:=(dz (l:=A.files) (fun y:AF.dB=>{ y with safe:=y.b.length }) hy).symm;rw [e3] at H5;have eu2:(A.stepOn.setFile x fun y=>{ y with safe:=y.b.length }).used=A.stepOn.used:=zD W.stepOn fun y=>rfl;unfold cM;rw [eu2];exact H5.ordT 4 [1,2,0,3]
 · refine ⟨none,none,(e:Int),rfl,?_⟩;rw [n8 e0,aa,aa];unfold AF.FS.sync;rw [he];exact ⟨rfl,bA q hq H1⟩
theorem om {dir:ByteArray} (W:A.WF) (hs:A.steps<1099511627776) (hd:dir.size<4611686018427387904) (H:aD (cg b A::F) h) :
  aC prog 53 [aJ b,.string dir] h fun v h'=>v=.int .i64 ((A.syncDir dir).2:Int)∧aD (cg b (A.syncDir dir).1::F) h':=by
 obtain ⟨q,hq,H1⟩:=dr H
 apply Jm.ap
 unfold Oa
 refine (g5 (ss:=[]) (a:=none) (c:=0) W hq H1 rfl rfl (show 0<1000 by omega) hd (by simp)).mono ?_
 rintro v h1 ⟨rfl,hcase⟩
 rcases hcase with ⟨i,d,fb,he,hdi,hfi,rfl⟩ | ⟨e,he,hne,rfl⟩
 · refine ⟨some ⟨fb,0,none⟩,0,rfl,?_⟩;rw [show ((0:Int)==0)=true from rfl,ab];have e:A.syncDir dir=A.step fun g=>g.setDir i fun d=>{ d with base:=d.now,pend:=[] }:=by
    unfold AF.FS.syncDir;rw [he]
   rw [e];refine (jY W hs H1).mono ?_;rintro v h2 (⟨h0,rfl,H2⟩ | ⟨h0,rfl,H2⟩)
   · rw [aK,show ((60:Int)==0)=false from rfl,aa];unfold AF.FS.step;rw [al h0];exact ⟨rfl,bA (A:={ A with off:=true }) q hq H2⟩
   · rw [aK,show ((0:Int)==0)=true from rfl,ab];simp only [aV,aS];unfold AF.FS.step;rw [ak h0];obtain ⟨nb,bb,a,c,H3⟩:=jE (H2.mv 3) hdi hfi;refine fW (v:=.map (some nb)) H3.get rfl ?_;rw [bS];obtain ⟨m2,hp2,H4⟩:=fj (H3.mv 1);refine (rk H4).mono ?_;rintro v h3 ⟨cb,rfl,H5⟩;rw [bS];have H6:aD (pt fb (mt nb bb a d.pend.length c)::bF aN cb m2::bF aN nb m2::m7 q.xbs q.fbs A.dirs i::cM b A.stepOn q.md::bF aN q.md q.m::cj q.xbs A.files::F) h3:=H5.ordT 9 [2,0,1,5,6,7,8];refine cd (b:=fb) (i:=1) (c':=#[.map (some nb),.map (some cb),.slice a d.pend.length c]) H6 (by show 1<3; decide) rfl fun h4 H7=>?_;refine cd (b:=fb) (i:=2) (c':=#[.map (some nb),.map (some cb),.slice none 0 0]) H7 (by show 2<3; decide) rfl fun h5 H8=>?_;have H9:=dy hp2 (H8.mv 1);have H10:=dy hp2 (H9.mv 2);have H11:=nI (mS q.xbs) 132 H10;have H12:aD (du q.xbs q.fbs (A.dirs.set i { d with base:=d.now,pend:=[] })::cM b A.stepOn q.md::bF aN q.md q.m::cj q.xbs A.files::F) h5:=
      m6 (d:={ d with base:=d.now,pend:=[] }) (a:=none) (c:=0) hdi hfi (H11.ordT 5 [3,1,2,0,4])
     have e3:A.dirs.set i { d with base:=d.now,pend:=[] }=(A.stepOn.setDir i fun d=>{ d with base:=d.now,pend:=[] }).dirs:=(dz (l:=A.dirs) (fun d:AF.cB=>{ d with base:=d.now,pend:=[] }) hdi).symm;rw [e3] at H12;have eu:(A.stepOn.setDir i fun d=>{ d with base:=d.now,pend:=[] }).used=A.stepOn.used:=by
      have:(A.stepOn.setDir i fun d=>{ d with base:=d.now,pend:=[] }).idx=A.stepOn.idx:=by
       unfold AF.FS.idx;rw [List.flatMap_def,List.flatMap_def];congr 1;apply List.ext_getElem?;intro j;show ((A.dirs.modify i _).map _)[j]? = (A.dirs.map _)[j]?;rw [getElem?_map,getElem?_map,hZ]
       cases A.dirs[j]? with
       | none=>rfl
       | some d'=>by_cases hij:i=j <;> simp [hij]
      unfold AF.FS.used;rw [this]
      rfl
     refine ⟨rfl,bA q (qQ (A:=A.stepOn) hq (kD fun d=>rfl) rfl) ?_⟩;unfold cM;rw [eu];exact H12.ordT 4 [1,2,3,0]
 · refine ⟨none,(e:Int),rfl,?_⟩;have e0:e≠0:=by omega
   rw [n8 e0,aa,aa];unfold AF.FS.syncDir;rw [he];exact ⟨rfl,bA q hq H1⟩
end
theorem Ns {F:List aG} {h:Heap} {b0:Nat} {e:TypeId} {cs:Array Value} {xs:List Value} (H:aD (pt b0 (.cells cs e (0,0))::F) h) (hx:cs.toList=xs):dw h (some ⟨b0,0,none⟩) xs:=by
 intro j u hv
 rw [dR H.get,← hv,← hx,Array.getElem?_toList]
theorem qj {l:List ByteArray} (h:l.Pairwise fun a b=>AF.dF a b=true):fX l=l:=by
 have tr:∀ x y z:List UInt8,decide (x≤y)=true→decide (y≤z)=true→decide (x≤z)=true:=fun x y z h1 h2=>by
  simp only [decide_eq_true_eq] at h1 h2 ⊢;exact List.le_trans h1 h2
 have to:∀ x y:List UInt8,(decide (x≤y)||decide (y≤x))=true:=fun x y=>by
  simp only [Bool.or_eq_true,decide_eq_true_eq];exact List.le_total x y
 have e:(l.map fun s:ByteArray=>s.data.toList).mergeSort (fun x y=>decide (x≤y))=l.map fun s:ByteArray=>s.data.toList:=by
  refine List.Perm.eq_of_pairwise (le:=fun x y=>decide (x≤y)=true) ?_ (pairwise_mergeSort tr to _) ?_ (mergeSort_perm _ _)
  · intro x y _ _ h1 h2;simp only [decide_eq_true_eq] at h1 h2;exact le_antisymm h1 h2
  · rw [pairwise_map];refine h.imp fun {a b} hab=>?_;rw [AF.jX] at hab;simp only [decide_eq_true_eq];exact List.le_of_lt hab
 unfold fX
 rw [e,map_map]
 conv=>rhs; rw [← List.map_id l]
 exact map_congr_left fun s _=>by cases s; rfl
section
variable {b:Nat} {A:AF.FS} {q:tp} {F:List aG} {h:Heap}
theorem wR {dir k k2:ByteArray} (W:A.WF) (hs:A.steps<1099511627776) (hd:dir.size<4611686018427387904) (hn:k.size<4611686018427387904) (hn2:k2.size<4611686018427387904) (H:aD (cg b A::F) h) :
  aC prog 82 [aJ b,.string dir,.string k,.string k2] h fun v h'=>v=.int .i64 ((A.rename dir k k2).2:Int)∧aD (cg b (A.rename dir k k2).1::F) h':=by
 obtain ⟨q,hq,H0⟩:=dr H
 apply IZ.ap
 unfold NN
 refine aQ H0 fun b0 h1 H1=>aQ H1 fun b1 h2 H2=>?_
 refine fW (v:=.string k) (H2.mv 1).get rfl ?_
 rw [aR]
 refine fW (v:=.string k2) H2.get rfl ?_
 rw [aR]
 refine aQ H2 fun b2 h3 H3=>?_
 have H4:aD (Am b A q (pt b0 (.cells #[.string k] 9 (0,0))::pt b1 (.cells #[.string k2] 9 (0,0))::F)) h3:=H3.ordT 7 [3,4,5,6,2,1]
 refine (g5 (ss:=[k,k2]) W hq H4 (Ns H3 rfl) rfl (show 2<1000 by omega) hd (fun s hs=>by simp at hs; rcases hs with rfl | rfl; exact hn; exact hn2)).mono ?_
 rintro v h4 ⟨rfl,hcase⟩
 have Hd:aD (Am b A q F) h4:=(((H4.mv 5).drop).mv 4).drop
 rcases hcase with ⟨i,d,fb,he,hdi,hfi,rfl⟩ | ⟨e,he,hne,rfl⟩
 · have w:=W.each d (ai hdi);obtain ⟨nb,bb,a,c,es,hfb,hes,hsz,hlk⟩:=lM (H4.mv 3) hdi hfi w.ok.up;obtain ⟨f,hf,hl⟩:=hlk k;refine ⟨some ⟨fb,0,none⟩,0,rfl,?_⟩;rw [show ((0:Int)!=0)=false from rfl,aa];simp only [aV,aS];have rd:∀ K:Value→Prop,K (.map (some nb))→Ld h4 ⟨fb,0,none⟩ K:=fun K hK=>⟨_,by rw [bD hfb]; rfl,hK⟩
   refine rd _ ?_;rw [bS];refine fW (v:=.string k) (H4.mv 4).get rfl ?_;rw [aR];refine ⟨es,hes,f,hf,lb hl ?_⟩;have hD:=AF.jp hdi
   cases ho:AF.of d.now k with
   | none=>
     show bif (true:Bool) then _ else _
     rw [ab];have e:A.rename dir k k2=(A,62):=by
      unfold AF.FS.rename;rw [he];simp only [hD,ho,Option.isNone_none,if_true]
     rw [e];exact ⟨rfl,bA q hq Hd⟩
   | some x=>
     show bif (false:Bool) then _ else _
     rw [aa];have e:A.rename dir k k2=A.step fun g=>g.did i (.rename k k2):=by
      unfold AF.FS.rename;rw [he];simp only [hD,ho,Option.isNone_some,Bool.false_eq_true,if_false]
     rw [e];obtain ⟨_,_,hr,_,_⟩:=AF.dH he;have ho2:AF.of d.now k≠none:=by rw [ho]; exact fun e=>by cases e
     have K1:=((H4.mv 4).freeze.mv 5).freeze;have K2:aD (mS q.xbs (.rename k k2) (.func (.func 144) #[] #[aJ b0,aJ b1])::Am b A q F) h4:=by
      refine bw.2 ⟨(b0,b1),aD.shut (m:=[mC ((Value.func (.func 144) #[] #[aJ b0,aJ b1])=.func (.func 144) #[] #[aJ b0,aJ b1]),ro b0 (.cells #[.string k] 9 (0,0)),ro b1 (.cells #[.string k2] 9 (0,0))]) ?_⟩;exact cC.2 ⟨rfl,K1.mv 1⟩
     refine (pm W (AF.rV W hdi (hr k (by simp)) (hr k2 (by simp)) ho2) hq hdi hfi (AF.pu (hr k (by simp)) (hr k2 (by simp)) ho2) hs (K2.bk 4)).mono ?_;rintro v h5 ⟨rfl,H5⟩;rw [aK];refine ⟨rfl,bA q ?_ H5⟩;unfold AF.FS.step;split
     · exact hq
     · exact p5 (A:=A.stepOn) hq i _
 · refine ⟨none,(e:Int),rfl,?_⟩;have e0:e≠0:=by omega
   rw [bm e0,ab];unfold AF.FS.rename;rw [he];exact ⟨rfl,bA q hq Hd⟩
theorem oo {dir k:ByteArray} (W:A.WF) (hs:A.steps<1099511627776) (hd:dir.size<4611686018427387904) (hn:k.size<4611686018427387904) (H:aD (cg b A::F) h) :
  aC prog 50 [aJ b,.string dir,.string k] h fun v h'=>v=.int .i64 ((A.remove dir k).2:Int)∧aD (cg b (A.remove dir k).1::F) h':=by
 obtain ⟨q,hq,H0⟩:=dr H
 apply Jp.ap
 unfold Ob
 refine aQ H0 fun b0 h1 H1=>?_
 refine fW (v:=.string k) H1.get rfl ?_
 rw [aR]
 refine (mp W hq (H1.bk 4) hd hn).mono ?_
 rintro v h2 ⟨H2,⟨i,x,d,y,fb,xb,he,hdi,hfi,hy,hxb,rfl⟩ | ⟨e,he,e0,rfl⟩⟩
 · refine ⟨some ⟨fb,0,none⟩,_,0,rfl,?_⟩;rw [show ((0:Int)!=0)=false from rfl,aa];have e:A.remove dir k=A.step fun g=>g.did i (.remove k):=by
    unfold AF.FS.remove;rw [he]
   rw [e];obtain ⟨hrd,_⟩:=AF.lJ he;obtain ⟨_,_,hr,_,_⟩:=AF.dH hrd;have K2:aD (mS q.xbs (.remove k) (.func (.func 121) #[] #[aJ b0])::Am b A q F) h2:=by
    refine bw.2 ⟨b0,aD.shut (m:=[mC ((Value.func (.func 121) #[] #[aJ b0])=.func (.func 121) #[] #[aJ b0]),ro b0 (.cells #[.string k] 9 (0,0))]) ?_⟩;exact cC.2 ⟨rfl,(H2.mv 4).freeze⟩
   refine (pm W (AF.rW W hdi (hr k (by simp))) hq hdi hfi (hr k (by simp)) hs (K2.bk 4)).mono ?_;rintro v h5 ⟨rfl,H5⟩;rw [aK];refine ⟨rfl,bA q ?_ H5⟩;unfold AF.FS.step;split
   · exact hq
   · exact p5 (A:=A.stepOn) hq i _
 · refine ⟨none,none,(e:Int),rfl,?_⟩;rw [bm e0,ab];unfold AF.FS.remove;rw [he];exact ⟨rfl,bA q hq (H2.mv 4).drop⟩
theorem tG {a:Option Addr} {l c:Nat} {xs:List Nat} (hl:l≤140737488355328) (H:aD (aL 5 1 a l c (xs.map nv)::F) h) :
  aC prog 146 [.slice a l c] h fun v h'=>∃ (a2:Option Addr) (c2:Nat),v=.slice a2 l c2∧aD (aL 5 1 a2 l c2 (xs.map nv)::aL 5 1 a l c (xs.map nv)::F) h':=by
 apply GI.ap
 unfold Mk
 cases a with
 | none=>
   obtain ⟨hxl,⟨_,rfl,rfl,hx,H1⟩ | ⟨_,_,_,e,_⟩⟩:=cV H
   · refine ⟨none,0,rfl,?_⟩;rw [hx];exact bG 5 1 (bG 5 1 H1)
   · cases e
 | some a=>
   rw [show (some a).isNone=false from rfl,aa];have hlen:=eZ H;refine aQ H fun b0 h1 H1=>?_;have H2:aD (aL 5 1 (some ⟨b0,0,none⟩) 0 0 (([]:List Nat).map nv)::aL 5 1 (some a) l c (xs.map nv)::F) h1:=eW H1 (fun i hi=>by simp at hi) (av _) (au _) rfl rfl;refine oX (ys:=xs) Kt Hr KY H2 (rz (aI (H2.mv 1)) (by have:=hlen.1; simpa using this)) (by omega) fun a2 c2 h2 _ H3=>?_;rw [aF];rw [Nat.zero_add,nil_append] at H3;exact ⟨a2,c2,by rw [Nat.zero_add],H3⟩
theorem tO {dir name:ByteArray} (W:A.WF) (hd:dir.size<4611686018427387904) (hn:name.size<4611686018427387904) (H:aD (cg b A::F) h) :
  aC prog 102 [aJ b,.string dir,.string name] h fun v h'=>
   (∃ (bs:List Nat) (a:Option Addr) (c:Nat),A.read dir name=.ok bs∧B8 bs∧bs.length≤16777216∧v=.tuple #[.slice a bs.length c,.int .i64 0]∧aD (aL 5 1 a bs.length c (bs.map nv)::cg b A::F) h')∨
   (∃ e:Nat,A.read dir name=.error e∧e≠0∧v=.tuple #[.slice none 0 0,.int .i64 (e:Int)]∧aD (cg b A::F) h'):=by
 obtain ⟨q,hq,H0⟩:=dr H
 apply Ho.ap
 unfold MI
 refine (mp W hq H0 hd hn).mono ?_
 rintro v h1 ⟨H1,⟨i,x,d,y,fb,xb,he,hdi,hfi,hy,hxb,rfl⟩ | ⟨e,he,e0,rfl⟩⟩
 · refine ⟨_,some ⟨xb,0,none⟩,0,rfl,?_⟩;rw [show ((0:Int)!=0)=false from rfl,aa];simp only [aV,aS];have wy:=W.files y (ai hy);obtain ⟨a,c,H3⟩:=lH (H1.mv 2) hy hxb;refine fW (v:=.slice a y.b.length c) H3.get rfl ?_;rw [aF];refine (tG (by omega) (H3.mv 1)).mono ?_;rintro v h2 ⟨a2,c2,rfl,H4⟩;rw [aF];refine .inl ⟨y.b,a2,c2,?_,wy.2.2,wy.2.1,rfl,?_⟩
   · unfold AF.FS.read;rw [he];simp only [AF.re hy]
   · -- copy,aL,pt xb,qV,raw,bF,dirs
     have H5:=n7 hy hxb (H4.ordT 7 [2,1,3,0,4,5,6]);rw [j1 hy] at H5;have H6:aD (Am b A q (aL 5 1 a2 y.b.length c2 (y.b.map nv)::F)) h2:=H5.ordT 5 [2,3,0,4,1];exact (bA q hq H6).mv 1
 · refine ⟨none,none,(e:Int),rfl,?_⟩;rw [bm e0,ab];refine .inr ⟨e,?_,e0,rfl,bA q hq H1⟩;unfold AF.FS.read;rw [he]
theorem va {l:AF.bH} (h:AF.Up l):(l.map (·.1)).Pairwise fun a b=>AF.dF a b=true:=List.pairwise_map.2 h
theorem kq {dir:ByteArray} (W:A.WF) (hd:dir.size<4611686018427387904) (H:aD (cg b A::F) h) :
  aC prog 100 [aJ b,.string dir] h fun v h'=>
   (∃ (ks:List ByteArray) (a:Option Addr) (c:Nat),A.list dir=.ok ks∧(∀ k∈ks,AF.right k=true)∧ks.length≤4096∧v=.tuple #[.slice a ks.length c,.int .i64 0]∧aD (aL 9 1 a ks.length c (ks.map Value.string)::cg b A::F) h')∨
   (∃ e:Nat,A.list dir=.error e∧e≠0∧v=.tuple #[.slice none 0 0,.int .i64 (e:Int)]∧aD (cg b A::F) h'):=by
 obtain ⟨q,hq,H1⟩:=dr H
 apply Hp.ap
 unfold MJ
 refine (g5 (ss:=[]) (a:=none) (c:=0) W hq H1 rfl rfl (show 0<1000 by omega) hd (by simp)).mono ?_
 rintro v h1 ⟨rfl,hcase⟩
 rcases hcase with ⟨i,d,fb,he,hdi,hfi,rfl⟩ | ⟨e,he,hne,rfl⟩
 · refine ⟨some ⟨fb,0,none⟩,0,rfl,?_⟩;rw [show ((0:Int)!=0)=false from rfl,aa];simp only [aV,aS];have w:=W.each d (ai hdi);obtain ⟨nb,bb,a,c,H3⟩:=jE (H1.mv 3) hdi hfi;refine fW (v:=.map (some nb)) H3.get rfl ?_;rw [bS];refine (w6 H3).mono ?_;rintro v h2 ⟨cb,rfl,H4⟩;refine ⟨_,rfl,?_⟩;obtain ⟨m2,hp2,H5⟩:=fj (H4.mv 2);have hml:m2.length=d.now.length:=by rw [hp2.length_eq,an]
   have hfew:=w.ok.few;refine (F62_spec (H5.mv 1) (by omega)).mono ?_;rintro v h3 ⟨a3,c3,rfl,H6⟩;rw [aF];have ek:fX (m2.map (·.1))=d.now.map (·.1):=by
    rw [eP (hp2.map (·.1)),qX,qj (va w.ok.up)]
   rw [ek] at H6;refine .inl ⟨d.now.map (·.1),a3,c3,?_,?_,by rw [an]; exact hfew,by rw [an,hml],?_⟩
   · unfold AF.FS.list;rw [he];simp only [AF.jp hdi]
   · intro k hk;obtain ⟨p,hp,rfl⟩:=List.mem_map.1 hk;exact (w.ok.each p hp).2
   · rw [an,← hml];have H7:=dy hp2 (H6.mv 1);have H8:=m6 (d:=d) hdi hfi (H7.ordT 9 [2,0,3,4,5,1,6,7,8]);rw [j1 hdi] at H8;have H9:aD (Am b A q (aL 9 1 a3 m2.length c3 ((d.now.map (·.1)).map Value.string)::F)) h3:=H8.ordT 5 [2,3,4,0,1];exact (bA q hq H9).mv 1
 · refine ⟨none,(e:Int),rfl,?_⟩;have e0:e≠0:=by omega
   rw [bm e0,ab];refine .inr ⟨e,?_,e0,rfl,bA q hq H1⟩;unfold AF.FS.list;rw [he]
theorem uN {room used steps fuse:Int} {off:Bool} (W:A.WF) (hq:mE A q) (H:aD (jy b room used steps fuse off q.md::bF aN q.md q.m::F) h) :
  aC prog 60 [aJ b] h fun v h'=>∃ (a:Option Addr) (c:Nat),v=.slice a A.dirs.length c∧aD (aL 9 1 a A.dirs.length c ((A.dirs.map (·.name)).map Value.string)::jy b room used steps fuse off q.md::bF aN q.md q.m::F) h':=by
 apply Jj.ap
 unfold N7
 rw [show (some (⟨b,0,none⟩:Addr)).isNone=false from rfl,aa]
 simp only [aV]
 refine eU (v:=.map (some q.md)) H rfl ?_
 rw [bS]
 refine (Bq H).mono ?_
 rintro v h2 ⟨cb,rfl,H4⟩
 refine ⟨_,rfl,?_⟩
 have hml:q.m.length=A.dirs.length:=by have:=(kn hq).length_eq; simpa using this
 have hfew:=W.few
 refine (AO (H4.ordT 3 [0,2,1]) (by omega)).mono ?_
 rintro v h3 ⟨a3,c3,rfl,H6⟩
 rw [aF]
 have ek:fX (q.m.map (·.1))=A.dirs.map (·.name):=by
  rw [eP (kn hq),qj (List.pairwise_map.2 W.up)]
 rw [ek,hml] at H6
 exact ⟨a3,c3,by rw [hml],H6.ordT 3 [0,2,1]⟩
theorem Dm (W:A.WF) (H:aD (cg b A::F) h) :
  aC prog 60 [aJ b] h fun v h'=>∃ (a:Option Addr) (c:Nat),v=.slice a A.dirs.length c∧aD (aL 9 1 a A.dirs.length c ((A.dirs.map (·.name)).map Value.string)::cg b A::F) h':=by
 obtain ⟨q,hq,H1⟩:=dr H
 refine (uN W hq H1).mono ?_
 rintro v h1 ⟨a,c,rfl,H2⟩
 have H3:aD (Am b A q (aL 9 1 a A.dirs.length c ((A.dirs.map (·.name)).map Value.string)::F)) h1:=H2.ordT 5 [1,2,3,4,0]
 exact ⟨a,c,rfl,(bA q hq H3).mv 1⟩
theorem C8 (H:aD (cg b A::F) h):aC prog 96 [aJ b] h fun v h'=>v=.int .i64 (A.used:Int)∧h'=h:=by
 obtain ⟨q,hq,H1⟩:=dr H
 apply IY.ap
 unfold NM
 rw [show (some (⟨b,0,none⟩:Addr)).isNone=false from rfl,aa]
 simp only [aV]
 refine eU (v:=.int .i64 (A.used:Int)) H1 rfl ?_
 rw [aK]
 exact ⟨rfl,by trivial⟩
theorem C7 (H:aD (cg b A::F) h):aC prog 98 [aJ b] h fun v h'=>v=.int .i64 (A.steps:Int)∧h'=h:=by
 obtain ⟨q,hq,H1⟩:=dr H
 apply IX.ap
 unfold NL
 rw [show (some (⟨b,0,none⟩:Addr)).isNone=false from rfl,aa]
 simp only [aV]
 refine eU (v:=.int .i64 (A.steps:Int)) H1 rfl ?_
 rw [aK]
 exact ⟨rfl,by trivial⟩
theorem C6 (H:aD (cg b A::F) h):aC prog 99 [aJ b] h fun v h'=>v=.bool (!A.off)∧h'=h:=by
 obtain ⟨q,hq,H1⟩:=dr H
 apply IW.ap
 unfold NK
 rw [show (some (⟨b,0,none⟩:Addr)).isNone=false from rfl,aA,ab]
 simp only [aV]
 refine eU (v:=.bool A.off) H1 rfl ?_
 rw [bE]
 exact ⟨rfl,by trivial⟩
theorem DL {n:Int} (H:aD (cg b A::F) h):aC prog 19 [aJ b,.int .i64 n] h fun v h'=>v=.int .i64 ((A.setFuse n).2:Int)∧aD (cg b (A.setFuse n).1::F) h':=by
 obtain ⟨q,hq,H1⟩:=dr H
 apply JW.ap
 unfold OE AF.FS.setFuse
 rw [show (some (⟨b,0,none⟩:Addr)).isNone=false from rfl,aa]
 by_cases hn:n<0
 · rw [af hn,ab,al hn];exact ⟨rfl,H⟩
 · rw [ae hn,aa,ak hn];simp only [aV,aS];refine cd (b:=b) (i:=3) (c':=#[.int .i64 (A.room:Int),.int .i64 (A.used:Int),.int .i64 (A.steps:Int),.int .i64 n,.bool A.off,.map (some q.md)]) H1 (by show 3<6; decide) rfl fun h1 H2=>?_;refine ⟨rfl,bA (A:={ A with fuse:=some n.toNat }) q hq ?_⟩;have e:eK (some n.toNat)=n:=by show ((n.toNat:Nat):Int)=n; omega
   show aD (jy b (A.room:Int) (A.used:Int) (A.steps:Int) (eK (some n.toNat)) A.off q.md::_) h1;rw [e];exact H2
end
structure uJ (F:List aG) (ps:List Int) (a:Option Addr) (l c:Nat):Prop where
 len:ps.length=l
 cap:l≤c
 read:∀ h',aD F h'→dw h' a (ps.map iv)
abbrev mG (b0:Nat) (a:Option Addr) (l c:Nat):aG:=pt b0 (.cells #[.slice a l c] 47 (0,0))
section
variable {b:Nat} {A:AF.FS} {q:tp} {F G:List aG} {h:Heap}
theorem w7 {b0 n:Nat} {ps:List Int} {a:Option Addr} {l c:Nat} (hn:n<4611686018427387904) (hp:uJ F ps a l c) (hF:aD F h) (H:aD (mG b0 a l c::G) h) :
  aC prog 59 [.int .i64 (n:Int),aJ b0] h fun v h'=>v=.int .i64 ((AF.pick ps n).1:Int)∧∃ a2 l2 c2,uJ F (AF.pick ps n).2 a2 l2 c2∧aD (mG b0 a2 l2 c2::G) h':=by
 apply Jk.ap
 unfold N8
 refine fW (v:=.slice a l c) H.get rfl ?_
 rw [aF]
 have hl:=hp.len
 cases ps with
 | nil=>
   have:l=0:=hl.symm;subst this;rw [show (((0:Nat):Int)==0)=true from rfl,ab];exact ⟨rfl,a,0,c,hp,H⟩
 | cons p ps=>
   rw [ao] at hl;rw [n8 (show l≠0 by omega),aa];refine fW (v:=.slice a l c) H.get rfl ?_;rw [aF];have hr:=hp.read h hF;refine cm (i:=0) (v:=iv p) hr (by rw [an,ao]; exact hl) rfl fun ba hba hc=>⟨_,hc,?_⟩
   show DI .i64 (.int .i64 p) _;rw [aK];refine fW (v:=.slice a l c) H.get rfl ?_;rw [aF];have hcap:=hp.cap;refine gn (lo:=1) (hi:=l) (mx:=c) (by omega) hcap (av _) ?_;rw [aS];refine vq H fun h1 H1=>?_;have w1:wrap .i64 ((n:Int)+1)=((n+1:Nat):Int):=aH (by omega);have w2:wrap .u64 ((n+1:Nat):Int)=((n+1:Nat):Int):=IntWalk.u64_in _ (by omega);rw [w1,w2];refine ⟨by omega,?_,gJ a 1 c 1,l - 1,c - 1,⟨by show ps.length=l - 1; omega,by omega,fun h' hh=>?_⟩,H1⟩
   · have hu:∃ m:Nat,wrap .u64 p=(m:Int):=by
      rw [IntKind.wrap_u64];exact ⟨(p%18446744073709551616).toNat,by omega⟩
     obtain ⟨m,hm⟩:=hu;have hlt:m%(n+1)<n+1:=Nat.mod_lt m (Nat.succ_pos n);rw [hm,jb,cv (by omega)];show Value.int .i64 _=.int .i64 (((wrap .u64 p).toNat%(n+1):Nat):Int);rw [hm,Int.toNat_natCast]
   · have:=(hp.read h' hh).sub 1 (l - 1) c (by omega);have e:((List.map iv (p::ps)).drop 1).take (l - 1)=ps.map iv:=by
      rw [map_cons,List.drop_one,List.tail_cons,ar (by rw [an]; omega)]
     rw [e] at this;exact this
theorem HD (W:A.WF) (hq:mE A q) {i:Nat} {d:AF.cB} {fb:Nat} (hd:A.dirs[i]? = some d) (hf:q.fbs[i]? = some fb):me q.m d.name=some (aJ fb):=
 uq (m4 W hq) ((km hq).2 ⟨i,d,fb,hd,hf,rfl,rfl⟩)
theorem HM {mb fb:Nat} {m:List (ByteArray×Value)} {k:ByteArray} {K:Option Addr→Prop} (H:aD (bF aN mb m::F) h) (hk:me m k=some (aJ fb)) (hK:K (some ⟨fb,0,none⟩)) :
  ∃ es:Array MapEntry,dN h (some mb) es∧∃ f,Instr.findNow .string (.string k) es.toList 0=some f∧DP ((Option.map (fun x=>x.2) f).getD (.pointer none)) K:=by
 obtain ⟨es,clock,hm,hes⟩:=fP H
 obtain ⟨f,hf,hl,_⟩:=hm.find k
 refine ⟨es,hes,f,hf,?_⟩
 rw [hl,hk]
 exact ⟨_,rfl,hK⟩
theorem ow (a:Option Addr) (mx sz:Nat):gJ a 0 mx sz=a:=by
 unfold gJ
 split
 · rfl
 · cases a with
   | none=>rfl
   | some a=>simp
theorem Ck {e l c k:Nat} {a:Option Addr} {xs:List Value} (hk:k≤l) (H:aD (aL e 1 a l c xs::F) h):aD (aL e 1 a k c (xs.take k)::F) h:=by
 obtain ⟨hl,⟨rfl,rfl,rfl,rfl,H2⟩ | ⟨b',cells,fr,rfl,hlc,hcm,hcs,hfr,ht,H2⟩⟩:=cV H
 · have:k=0:=by omega
   subst this;exact bG e 1 H2
 · refine eW H2 hfr (by omega) hcm hcs ?_;rw [← ht,List.take_take,Nat.min_eq_left (by omega),Nat.mul_one]
theorem ko:∀ (ds es:List AF.cB) (l:List Int),AF.bY (ds++es) l=((AF.bY ds l).1++(AF.bY es (AF.bY ds l).2).1,(AF.bY es (AF.bY ds l).2).2)
 | [],es,l=>rfl
 | d::ds,es,l=>by
   rw [cons_append];simp only [AF.bY];rw [ko ds es]
   rfl
theorem jG:∀ (xs ys:List Nat) (fs:List AF.dB) (l:List Int),AF.cy (xs++ys) fs l=AF.cy ys (AF.cy xs fs l).1 (AF.cy xs fs l).2
 | [],ys,fs,l=>rfl
 | x::xs,ys,fs,l=>by
   rw [cons_append];simp only [AF.cy];rw [jG xs ys]
theorem lh:∀ (ds:List AF.cB) (l:List Int),(AF.bY ds l).1.map (·.name)=ds.map (·.name)
 | [],l=>rfl
 | d::ds,l=>by simp only [AF.bY,map_cons]; rw [lh ds]
def yk (d:AF.cB) (k:Nat):AF.cB:=⟨d.name,AF.g9 d.base (d.pend.take k),AF.g9 d.base (d.pend.take k),[]⟩
def fo (A:AF.FS) (ps:List Int) (i:Nat):List AF.cB:=(AF.bY (A.dirs.take i) ps).1++A.dirs.drop i
def gl (A:AF.FS) (ps:List Int) (i:Nat):List Int:=(AF.bY (A.dirs.take i) ps).2
theorem m5 {ps:List Int} {i:Nat} {d:AF.cB} (hd:A.dirs[i]? = some d):(fo A ps i)[i]? = some d:=by
 have hi:=(aj.1 hd).1
 unfold fo
 rw [List.getElem?_append_right (by rw [AF.dA,aq]; omega),AF.dA,aq,getElem?_drop,← hd]
 congr 1
 omega
theorem pJ {ps:List Int} {i:Nat} {d:AF.cB} (hd:A.dirs[i]? = some d) :
  fo A ps (i+1)=(fo A ps i).set i (yk d (AF.pick (gl A ps i) d.pend.length).1)∧gl A ps (i+1)=(AF.pick (gl A ps i) d.pend.length).2:=by
 have hi:=(aj.1 hd).1
 have ht:A.dirs.take (i+1)=A.dirs.take i++[d]:=by rw [ax,hd]; rfl
 unfold fo gl
 rw [ht,ko]
 refine ⟨?_,rfl⟩
 have hdr:A.dirs.drop i=d::A.dirs.drop (i+1):=by
  rw [drop_eq_getElem_cons hi];congr 1;rw [ah hi] at hd;exact Option.some.inj hd
 rw [hdr,List.set_append_right _ _ (by rw [AF.dA,aq]; omega),AF.dA,aq,show i - min i A.dirs.length=0 by omega,List.set_cons_zero,append_assoc]
 rfl
end
section
variable {b:Nat} {A:AF.FS} {q:tp} {F:List aG} {h:Heap}
def bM (A:AF.FS) (ps:List Int) (xs:List Nat):List AF.dB×List Int:=AF.cy xs A.files (gl A ps A.dirs.length)
theorem q6 (ps:List Int):(A.crash ps).dirs=fo A ps A.dirs.length:=by
 unfold AF.FS.crash fo
 rw [take_length,List.drop_length,append_nil]
theorem iA (ps:List Int):(A.crash ps).files=(bM A ps (A.crash ps).idx).1:=by
 unfold bM gl
 rw [take_length]
 rfl
theorem pL (ps:List Int):(A.crash ps).dirs.map (·.name)=A.dirs.map (·.name):=lh A.dirs ps
theorem n4 {ps:List Int} {xs:List Nat} {x:Nat} {y:AF.dB} (hy:(bM A ps xs).1[x]? = some y) :
  bM A ps (xs++[x])=((bM A ps xs).1.set x ⟨y.b.take (y.safe+(AF.pick (bM A ps xs).2 (y.b.length - y.safe)).1),y.safe+(AF.pick (bM A ps xs).2 (y.b.length - y.safe)).1⟩,(AF.pick (bM A ps xs).2 (y.b.length - y.safe)).2):=by
 have hg:(bM A ps xs).1.getD x default=y:=by rw [getD_eq_getElem?_getD,hy]; rfl
 have:bM A ps (xs++[x])=AF.cy [x] (bM A ps xs).1 (bM A ps xs).2:=by unfold bM; rw [jG]
 rw [this]
 simp only [AF.cy,hg]
theorem qU (W:A.WF) (ps:List Int) (xs:List Nat):∀ y∈(bM A ps xs).1,AF.lS y:=AF.jO W.files
theorem fQ (ps:List Int) (xs:List Nat):(bM A ps xs).1.length=A.files.length:=AF.fH _ _ _
theorem Ak (hq:mE A q) (ps:List Int):mE (A.crash ps) q:=qQ hq (pL ps) (by rw [iA,fQ])
abbrev vG (b:Nat) (A:AF.FS) (q:tp):aG:=cM b A q.md
theorem Ca {B:aG} {L:List aG} (H:aD (B::(L++F)) h):aD (B::dh L::F) h:=let ⟨r,hr,hs⟩:=H; ⟨r,fu (fun _ h=>h) (fun _ h=>dX.1 h) hr,hs⟩
theorem EH {xbs:List Nat} {bb n j:Nat} {l:AF.bH} {os:List AF.Op} {vs:List Value} {o:AF.Op} {v:Value} (hl:vs.length=os.length) (ho:os[j]? = some o) (hv:vs[j]? = some v)
  (H:aD (cw xbs bb l::dh (zipWith (mS xbs) os vs)::F) h) (hk:AF.Ok n l) (hf:AF.my n l o) :
  cK prog v [.map (some bb)] h fun r h'=>r=.tuple #[]∧aD (cw xbs bb (AF.does l o)::dh (zipWith (mS xbs) os vs)::F) h':=by
 have H2:=iw (H.mv 1) ho hv
 refine (yO (H2.ordT 3 [2,0,1]) hk hf).mono ?_
 rintro r h' ⟨rfl,H3⟩
 exact ⟨rfl,(sA ho hv (H3.ordT 3 [1,2,0])).mv 1⟩
theorem DK {ps:List Int} {pa:Option Addr} {pl pc:Nat} (W:A.WF) (hp:uJ F ps pa pl pc) (hs:A.steps<1099511627776) (H:aD (cg b A::F) h) :
  aC prog 20 [aJ b,.slice pa pl pc] h fun v h'=>v=.int .i64 0∧aD (cg b (A.crash ps)::F) h':=by
 obtain ⟨q,hq,H0⟩:=dr H
 have W2:=W.crash ps
 have hq2:=Ak hq ps
 have hfew:=W.few
 apply JR.ap
 unfold OD
 refine aQ H0 fun b0 h1 H1=>?_
 rw [show (some (⟨b,0,none⟩:Addr)).isNone=false from rfl,aa]
 refine (uN W hq (H1.bk 4)).mono ?_
 rintro v h2 ⟨na,nc,rfl,H2⟩
 rw [aF]
 refine ⟨fun st hh=>∃ i,st=((i:Nat):Int)∧i≤A.dirs.length∧∃ (a:Option Addr) (l c:Nat),uJ F (gl A ps i) a l c∧
   aD (mG b0 a l c::aL 9 1 na A.dirs.length nc ((A.dirs.map (·.name)).map Value.string)::vG b A q::bF aN q.md q.m::cj q.xbs A.files::du q.xbs q.fbs (fo A ps i)::F) hh,
  fun st _=>((A.dirs.length:Int) - st).toNat,⟨0,rfl,au _,pa,pl,pc,hp,H2.ordT 6 [5,0,1,2,3,4]⟩,?_⟩
 rintro st h3 ⟨i,rfl,hi,a,l,c,hpk,H3⟩
 by_cases hlt:i<A.dirs.length
 · rw [af (show ((i:Int)<(A.dirs.length:Int)) by omega),ab];obtain ⟨d,hdi⟩:∃ d,A.dirs[i]? = some d:=⟨_,ah hlt⟩
   obtain ⟨fb,hfi⟩:=CJ hq hdi;have w:=W.each d (ai hdi);have hpl:=w.pend;have hnm:((A.dirs.map (·.name)).map Value.string)[i]? = some (.string d.name):=by rw [getElem?_map,getElem?_map,hdi]; rfl
   refine cm (v:=.string d.name) (aI (H3.mv 1)) (by rw [an,an]) hnm fun ba hba hc=>⟨_,hc,?_⟩
   show DS (.string d.name) _;rw [aR];simp only [aV,aS];refine eU (b:=b) (v:=.map (some q.md)) (H3.mv 2) rfl ?_;rw [bS];refine HM (H3.mv 3) (HD W hq hdi hfi) ?_;simp only [aV,aS];obtain ⟨nb,bb,oa,oc,H4⟩:=jE (H3.mv 5) (m5 hdi) hfi;refine eU (b:=fb) (i:=2) (v:=.slice oa d.pend.length oc) H4 rfl ?_;rw [aF];refine eU (b:=fb) (i:=2) (v:=.slice oa d.pend.length oc) H4 rfl ?_;rw [aF];refine (w7 (n:=d.pend.length) (by omega) hpk (H4.rest 10) (H4.mv 5)).mono ?_;rintro v h4 ⟨rfl,a2,l2,c2,hpk2,H5⟩;rw [aK];refine ⟨rfl,rfl,rfl,?_⟩;refine ⟨eU (b:=fb) (i:=2) (v:=.slice oa d.pend.length oc) (H5.mv 1) rfl (by rw [aF]; rfl),rfl,?_⟩;have hple:=AF.nG (gl A ps i) d.pend.length;generalize hk:(AF.pick (gl A ps i) d.pend.length).1=k at hple;have hol:=Cl (H5.mv 4);refine gn (lo:=0) (hi:=k) (mx:=oc) (au _) (by omega) (av _) ?_;rw [ow,Nat.sub_zero];obtain ⟨vs,hvl,H6⟩:=oJ (H5.mv 4);have H7:aD (dh (zipWith (mS q.xbs) d.pend vs)::aL 132 1 oa d.pend.length oc vs::mG b0 a2 l2 c2::pt fb (mt nb bb oa d.pend.length oc)::cw q.xbs nb d.now::cw q.xbs bb d.base::m7 q.xbs q.fbs (fo A ps i) i::
    aL 9 1 na A.dirs.length nc ((A.dirs.map (·.name)).map Value.string)::vG b A q::bF aN q.md q.m::cj q.xbs A.files::F) h4:=by
    have K:aD (aL 132 1 oa d.pend.length oc vs::dh (zipWith (mS q.xbs) d.pend vs)::_) h4:=Ca H6;exact K.mv 1
   refine ⟨fun st hh=>∃ j,st=((j:Nat):Int)∧j≤k∧aD (dh (zipWith (mS q.xbs) d.pend vs)::aL 132 1 oa d.pend.length oc vs::mG b0 a2 l2 c2::pt fb (mt nb bb oa d.pend.length oc)::cw q.xbs nb d.now::cw q.xbs bb (AF.g9 d.base (d.pend.take j))::m7 q.xbs q.fbs (fo A ps i) i::
    aL 9 1 na A.dirs.length nc ((A.dirs.map (·.name)).map Value.string)::vG b A q::bF aN q.md q.m::cj q.xbs A.files::F) hh,
    fun st _=>((k:Int) - st).toNat,⟨0,rfl,au _,H7⟩,?_⟩
   rintro st h5 ⟨j,rfl,hj,H8⟩;by_cases hjk:j<k
   · rw [af (show ((j:Int)<(k:Int)) by omega),ab];obtain ⟨o,ho⟩:∃ o,d.pend[j]? = some o:=⟨_,ah (by omega)⟩
     obtain ⟨v,hv⟩:∃ v,vs[j]? = some v:=⟨_,ah (by omega)⟩
     have hrd:dw h5 oa (vs.take k):=by
      have:=(aI (H8.mv 1)).sub 0 k oc (by omega)
      rwa [ow,drop_zero] at this
     refine cm (v:=v) hrd (by rw [aq]; omega) (by rw [getElem?_take,al hjk]; exact hv) fun ba2 hba2 hc2=>⟨_,hc2,?_⟩
     refine ⟨v,rfl,?_⟩;refine eU (b:=fb) (i:=1) (v:=.map (some bb)) (H8.mv 3) rfl ?_;rw [bS];obtain ⟨hok,hfit⟩:=w.runs.at j ho;refine (EH hvl ho hv (H8.ordT 11 [5,0,1,2,3,4,6,7,8,9,10]) hok hfit).mono ?_;rintro r h6 ⟨rfl,H9⟩;refine ⟨rfl,⟨j+1,aH (by omega),by omega,?_⟩,?_⟩
     · have e:AF.g9 d.base (d.pend.take (j+1))=AF.does (AF.g9 d.base (d.pend.take j)) o:=by
        rw [ax,ho];exact AF.oI _ _ _
       rw [e];exact H9.ordT 11 [1,2,3,4,5,0,6,7,8,9,10]
     · rw [aH (by omega)];show ((k:Int) - ((j+1:Nat):Int)).toNat<((k:Int) - (j:Int)).toNat;omega
   · have ejk:j=k:=by omega
     subst ejk;rw [ae (by omega),aa];refine eU (b:=fb) (i:=1) (v:=.map (some bb)) (H8.mv 3) rfl ?_;rw [bS];obtain ⟨m2,hp2,H9⟩:=fj (H8.mv 5);refine (rk H9).mono ?_;rintro v h6 ⟨cb,rfl,H10⟩;rw [bS];have H11:aD (pt fb (mt nb bb oa d.pend.length oc)::bF aN cb m2::bF aN bb m2::m7 q.xbs q.fbs (fo A ps i) i::mG b0 a2 l2 c2::aL 9 1 na A.dirs.length nc ((A.dirs.map (·.name)).map Value.string)::vG b A q::bF aN q.md q.m::cj q.xbs A.files::F) h6:=
      H10.ordT 12 [5,0,1,7,4,8,9,10,11]
     refine cd (b:=fb) (i:=0) (c':=#[.map (some cb),.map (some bb),.slice oa d.pend.length oc]) H11 (by show 0<3; decide) rfl fun h7 H12=>?_;refine cd (b:=fb) (i:=2) (c':=#[.map (some cb),.map (some bb),.slice none 0 0]) H12 (by show 2<3; decide) rfl fun h8 H13=>?_;have H14:=dy hp2 (H13.mv 1);have H15:=dy hp2 (H14.mv 2);have H16:=nI (mS q.xbs) 132 H15;have H17:aD (du q.xbs q.fbs ((fo A ps i).set i (yk d j))::mG b0 a2 l2 c2::aL 9 1 na A.dirs.length nc ((A.dirs.map (·.name)).map Value.string)::vG b A q::bF aN q.md q.m::cj q.xbs A.files::F) h8:=
      m6 (d:=yk d j) (a:=none) (c:=0) (m5 hdi) hfi (H16.ordT 5 [3,2,1,0,4])
     obtain ⟨en1,en2⟩:=pJ (ps:=ps) hdi;rw [hk] at en1;rw [← en1] at H17;rw [← en2] at hpk2;refine ⟨⟨i+1,aH (by omega),by omega,a2,l2,c2,hpk2,H17.ordT 6 [1,2,3,4,5,0]⟩,?_⟩;rw [aH (by omega)];show ((A.dirs.length:Int) - ((i+1:Nat):Int)).toNat<((A.dirs.length:Int) - (i:Int)).toNat;omega
 · have ei:i=A.dirs.length:=by omega
   subst ei;rw [ae (by omega),aa];rw [← q6] at H3;have hlen2:(A.crash ps).dirs.length=A.dirs.length:=by have:=congrArg List.length (pL (A:=A) ps); simpa using this
   refine (uN W2 hq2 (H3.ordT 6 [2,3,4,5,0])).mono ?_;rintro v h4 ⟨na2,nc2,rfl,H4⟩;rw [aF];have idxTo:∀ i,List Nat:=fun i=>((A.crash ps).dirs.take i).flatMap fun d=>d.now.map (·.2);refine ⟨fun st hh=>∃ i,st=((i:Nat):Int)∧i≤(A.crash ps).dirs.length∧∃ (a:Option Addr) (l c:Nat),uJ F (bM A ps (((A.crash ps).dirs.take i).flatMap fun d=>d.now.map (·.2))).2 a l c∧
    aD (mG b0 a l c::aL 9 1 na2 (A.crash ps).dirs.length nc2 (((A.crash ps).dirs.map (·.name)).map Value.string)::vG b A q::bF aN q.md q.m::cj q.xbs (bM A ps (((A.crash ps).dirs.take i).flatMap fun d=>d.now.map (·.2))).1::du q.xbs q.fbs (A.crash ps).dirs::F) hh,
    fun st _=>(((A.crash ps).dirs.length:Int) - st).toNat,⟨0,rfl,au _,a,l,c,hpk,H4.ordT 6 [5,0,1,2,3,4]⟩,?_⟩
   rintro st h5 ⟨i,rfl,hi2,a3,l3,c3,hpk3,H5⟩;by_cases hlt2:i<(A.crash ps).dirs.length
   · rw [af (show ((i:Int)<((A.crash ps).dirs.length:Int)) by omega),ab];obtain ⟨d,hdi⟩:∃ d,(A.crash ps).dirs[i]? = some d:=⟨_,ah hlt2⟩
     obtain ⟨fb,hfi⟩:=CJ hq2 hdi;have w:=W2.each d (ai hdi);have hnm:(((A.crash ps).dirs.map (·.name)).map Value.string)[i]? = some (.string d.name):=by rw [getElem?_map,getElem?_map,hdi]; rfl
     refine cm (v:=.string d.name) (aI (H5.mv 1)) (by rw [an,an]) hnm fun ba hba hc=>⟨_,hc,?_⟩
     show DS (.string d.name) _;rw [aR];simp only [aV,aS];refine eU (b:=b) (v:=.map (some q.md)) (H5.mv 2) rfl ?_;rw [bS];refine HM (H5.mv 3) (HD W2 hq2 hdi hfi) ?_;simp only [aV,aS];obtain ⟨nb,bb,oa,oc,H6⟩:=jE (H5.mv 5) hdi hfi;refine fW (v:=.map (some nb)) H6.get rfl ?_;rw [bS];refine (w6 H6).mono ?_;rintro v h6 ⟨cb,rfl,H7⟩;refine ⟨_,rfl,?_⟩;obtain ⟨m2,hp2,H8⟩:=fj (H7.mv 2);have hml:m2.length=d.now.length:=by rw [hp2.length_eq,an]
     have hfew2:=w.ok.few;refine (F62_spec (H8.mv 1) (by omega)).mono ?_;rintro v h7 ⟨ka,kc,rfl,H9⟩;rw [aF];have ek:fX (m2.map (·.1))=d.now.map (·.1):=by
      rw [eP (hp2.map (·.1)),qX,qj (va w.ok.up)]
     rw [ek,hml] at H9;rw [hml];have H10:=dy hp2 (H9.mv 1);have H11:=m6 (d:=d) hdi hfi (H10.ordT 11 [2,0,3,4,5,1,6,7,8,9,10]);rw [j1 hdi] at H11;have hdt:((A.crash ps).dirs.take (i+1)).flatMap (fun d:AF.cB=>d.now.map (·.2))=((A.crash ps).dirs.take i).flatMap (fun d:AF.cB=>d.now.map (·.2))++d.now.map (·.2):=by
      rw [ax,hdi,flatMap_append];simp
     generalize hxs:((A.crash ps).dirs.take i).flatMap (fun d:AF.cB=>d.now.map (·.2))=xs at hpk3 H11 hdt;have ex0:xs++(d.now.take 0).map (·.2)=xs:=by simp
     refine ⟨fun st hh=>∃ j,st=((j:Nat):Int)∧j≤d.now.length∧∃ (a:Option Addr) (l c:Nat),uJ F (bM A ps (xs++(d.now.take j).map (·.2))).2 a l c∧
      aD (mG b0 a l c::aL 9 1 ka d.now.length kc ((d.now.map (·.1)).map Value.string)::aL 9 1 na2 (A.crash ps).dirs.length nc2 (((A.crash ps).dirs.map (·.name)).map Value.string)::vG b A q::bF aN q.md q.m::
       cj q.xbs (bM A ps (xs++(d.now.take j).map (·.2))).1::du q.xbs q.fbs (A.crash ps).dirs::F) hh,
      fun st _=>((d.now.length:Int) - st).toNat,⟨0,rfl,au _,a3,l3,c3,by rw [ex0]; exact hpk3,by rw [ex0]; exact H11.ordT 7 [2,1,3,4,5,6,0]⟩,?_⟩
     rintro st h8 ⟨j,rfl,hj,a4,l4,c4,hpk4,H12⟩;by_cases hjl:j<d.now.length
     · rw [af (show ((j:Int)<(d.now.length:Int)) by omega),ab];obtain ⟨p,hpj⟩:∃ p,d.now[j]? = some p:=⟨_,ah hjl⟩
       have hpm:=ai hpj;have hnm2:((d.now.map (·.1)).map Value.string)[j]? = some (.string p.1):=by rw [getElem?_map,getElem?_map,hpj]; rfl
       refine cm (v:=.string p.1) (aI (H12.mv 1)) (by rw [an,an]) hnm2 fun ba2 hba2 hc2=>⟨_,hc2,?_⟩
       show DS (.string p.1) _;rw [aR];obtain ⟨nb2,bb2,a5,c5,es,hfb,hes,hsz,hlk⟩:=lM (H12.mv 6) hdi hfi w.ok.up;refine ⟨.map (some nb2),by rw [bD hfb]; rfl,?_⟩;show DM (.map (some nb2)) _;rw [bS];obtain ⟨f,hf,hl⟩:=hlk p.1;refine ⟨es,hes,f,hf,lb hl ?_⟩;rw [AF.xU w.ok.up.nodup (f:=p.2) hpm];have hx2:p.2<(A.crash ps).files.length:=(w.ok.each p hpm).1;have hx3:p.2<(bM A ps (xs++(d.now.take j).map (·.2))).1.length:=by
        rw [fQ];rw [iA,fQ] at hx2;exact hx2
       obtain ⟨_,xb,_,hxb,hgd⟩:=yD hq2 hx2;obtain ⟨y,hy⟩:∃ y,(bM A ps (xs++(d.now.take j).map (·.2))).1[p.2]? = some y:=⟨_,ah hx3⟩
       obtain ⟨yo1,yo2,_⟩:=qU W ps _ y (ai hy);show bf (some ⟨q.xbs.getD p.2 0,0,none⟩) _;rw [hgd];simp only [Option.map_some,aV,aS,hgd];obtain ⟨ya,yc,H13⟩:=lH (H12.mv 5) hy hxb;refine fW (v:=.slice ya y.b.length yc) H13.get rfl ?_;rw [aF];refine eU (b:=xb) (i:=1) (v:=.int .i64 (y.safe:Int)) H13 rfl ?_;rw [aK];refine fW (v:=.slice ya y.b.length yc) H13.get rfl ?_;rw [aF];refine eU (b:=xb) (i:=1) (v:=.int .i64 (y.safe:Int)) H13 rfl ?_;rw [aK];have w1:wrap .i64 ((y.b.length:Int) - (y.safe:Int))=((y.b.length - y.safe:Nat):Int):=by
        rw [IntWalk.i64_in _ (by omega)];omega
       rw [w1];refine (w7 (n:=y.b.length - y.safe) (by omega) hpk4 (H13.rest 9) (H13.mv 3)).mono ?_;rintro v h9 ⟨rfl,a6,l6,c6,hpk6,H14⟩;rw [aK];refine ⟨rfl,rfl,rfl,rfl,fW (v:=.slice ya y.b.length yc) (H14.mv 1).get rfl (by rw [aF]; rfl),rfl,rfl,rfl,eU (b:=xb) (i:=1) (v:=.int .i64 (y.safe:Int)) (H14.mv 1) rfl (by rw [aK]; rfl),?_⟩;have hple:=AF.nG (bM A ps (xs++(d.now.take j).map (·.2))).2 (y.b.length - y.safe);obtain hnext:=n4 hy;generalize hk:(AF.pick (bM A ps (xs++(d.now.take j).map (·.2))).2 (y.b.length - y.safe)).1=k at hple hnext;rw [← Int.natCast_add,cv (by omega)];have hyl:=eZ (H14.mv 2);rw [an] at hyl;refine gn (lo:=0) (hi:=y.safe+k) (mx:=yc) (au _) (by omega) (av _) ?_;rw [ow,Nat.sub_zero,Nat.sub_zero];have H15:=Ck (k:=y.safe+k) (by omega) (H14.mv 2);rw [← map_take] at H15;refine cd (b:=xb) (i:=0) (c':=#[.slice ya (y.safe+k) yc,.int .i64 (y.safe:Int)]) (H15.mv 2) (by show 0<2; decide) rfl fun h10 H16=>?_;refine eU (b:=xb) (i:=0) (v:=.slice ya (y.safe+k) yc) H16 rfl ?_;rw [aF];refine cd (b:=xb) (i:=1) (c':=#[.slice ya (y.safe+k) yc,.int .i64 ((y.safe+k:Nat):Int)]) H16 (by show 1<2; decide) rfl fun h11 H17=>?_;have etl:(y.b.take (y.safe+k)).length=y.safe+k:=by rw [aq]; omega
       have H18:aD (pt xb (qW ya (y.b.take (y.safe+k)).length yc (y.safe+k))::aL 5 1 ya (y.b.take (y.safe+k)).length yc ((y.b.take (y.safe+k)).map nv)::qV q.xbs (bM A ps (xs++(d.now.take j).map (·.2))).1 p.2::mG b0 a6 l6 c6::
        aL 9 1 ka d.now.length kc ((d.now.map (·.1)).map Value.string)::aL 9 1 na2 (A.crash ps).dirs.length nc2 (((A.crash ps).dirs.map (·.name)).map Value.string)::vG b A q::bF aN q.md q.m::du q.xbs q.fbs (A.crash ps).dirs::F) h11:=by
        rw [etl];exact H17.ordT 9 [0,1,3,2,4,5,6,7,8]
       have H19:=n7 (y:=⟨y.b.take (y.safe+k),y.safe+k⟩) hy hxb H18;have ejs:(d.now.take (j+1)).map (·.2)=(d.now.take j).map (·.2)++[p.2]:=by
        rw [ax,hpj];simp
       have en:bM A ps (xs++(d.now.take (j+1)).map (·.2))=((bM A ps (xs++(d.now.take j).map (·.2))).1.set p.2 ⟨y.b.take (y.safe+k),y.safe+k⟩,(AF.pick (bM A ps (xs++(d.now.take j).map (·.2))).2 (y.b.length - y.safe)).2):=by
        rw [ejs,← append_assoc];exact hnext
       refine ⟨⟨j+1,aH (by omega),by omega,a6,l6,c6,by rw [en]; exact hpk6,?_⟩,?_⟩
       · rw [en];exact H19.ordT 7 [1,2,3,4,5,0,6]
       · rw [aH (by omega)];show ((d.now.length:Int) - ((j+1:Nat):Int)).toNat<((d.now.length:Int) - (j:Int)).toNat;omega
     · have ejl:j=d.now.length:=by omega
       subst ejl;rw [ae (by omega),aa];rw [take_length] at H12 hpk4;rw [← hdt] at H12 hpk4;refine ⟨⟨i+1,aH (by omega),by omega,a4,l4,c4,hpk4,H12.ordT 7 [0,2,3,4,5,6]⟩,?_⟩;rw [aH (by omega)];show (((A.crash ps).dirs.length:Int) - ((i+1:Nat):Int)).toNat<(((A.crash ps).dirs.length:Int) - (i:Int)).toNat;omega
   · have ei2:i=(A.crash ps).dirs.length:=by omega
     subst ei2;rw [ae (by omega),aa];rw [take_length] at H5;have efs:(bM A ps ((A.crash ps).dirs.flatMap fun d=>d.now.map (·.2))).1=(A.crash ps).files:=(iA ps).symm;rw [efs] at H5;simp only [aV,aS];refine cd (b:=b) (i:=4) (c':=#[.int .i64 (A.room:Int),.int .i64 (A.used:Int),.int .i64 (A.steps:Int),.int .i64 (eK A.fuse),.bool false,.map (some q.md)]) (H5.mv 2) (by show 4<6; decide) rfl fun h6 H6=>?_;refine cd (b:=b) (i:=3) (c':=#[.int .i64 (A.room:Int),.int .i64 (A.used:Int),.int .i64 (A.steps:Int),.int .i64 (-1),.bool false,.map (some q.md)]) H6 (by show 3<6; decide) rfl fun h7 H7=>?_;refine (rj (A:=A.crash ps) (room:=(A.room:Int)) (used0:=(A.used:Int)) (steps:=(A.steps:Int)) (fuse := -1) (off:=false) W2 hq2 (H7.ordT 6 [0,3,4,5])).mono ?_;rintro v h8 ⟨rfl,H8⟩;exact ⟨by trivial,by trivial,bA q hq2 H8⟩
end
end Go.Proofs.YtibdiikcigokjaaGreat
