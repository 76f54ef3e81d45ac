/- The program's store over whatever files: files laid,Snap,Commit (seat S). -/
import Derived.Test.YtibdiikcigokjaaGreatPyPjX
import Derived.Test.YtibdiikcigokjaaGreatPyPkX
import Derived.Test.YtibdiikcigokjaaGreatPyPh1
import Derived.Test.YtibdiikcigokjaaGreatPyPiX
namespace Go.Proofs.YtibdiikcigokjaaGreat
open Go.Builtin (append_)
open Go.IntKind (wrap)
open Go.Proofs.Tryz (prog)
open List (length_drop append_assoc drop_drop take_append_drop drop_zero map_cons flatMap_cons flatMap_append append_nil length_nil sum_cons drop_eq_getElem_cons take_length mem_cons_self drop_of_length_le)
open Go Go.RowKit Go.MapKept
set_option linter.unusedVariables false
set_option linter.unusedSimpArgs false
open AF (cI kZ ln fY dF)
open TS (Ch gk Diffs dL VT dG cD jd rA)
theorem sk (n:Nat) (h:n<1180591620717411303424):(fi n).length≤1+n:=by
 by_cases h1:n<128
 · rw [eQ h1];simp
 · have:=dk 9 n (Nat.lt_of_lt_of_le h (by decide));omega
theorem vK {ps:gX} (hl:ps.length<100000000000) (hz:∀ p∈ps,p.1.size≤1000000000∧p.2.size≤1000000000):(bj ps).length≤10+2*dq ps:=by
 have h1:=dk 9 ps.length (Nat.lt_of_lt_of_le (show ps.length<1180591620717411303424 by omega) (by decide))
 unfold bj qB
 rw [am,an]
 suffices h:∀ qs:gX,(∀ p∈qs,p.1.size≤1000000000∧p.2.size≤1000000000)→((qs.map fun p=>(sb p.1,sb p.2)).flatMap fO).length≤2*dq qs by
  have:=h ps hz;omega
 intro qs hq
 induction qs with
 | nil=>simp
 | cons p l ih=>
   have h2:=ih fun q hq2=>hq q (aB _ hq2);obtain ⟨z1,z2⟩:=hq p (mem_cons_self ..);rw [map_cons,flatMap_cons,am];have n1:=sk p.1.size (by omega);have n2:=sk p.2.size (by omega);have e:(fO (sb p.1,sb p.2)).length=(fi p.1.size).length+p.1.size+((fi p.2.size).length+p.2.size):=by
    unfold fO cT;simp only [am,aW]
   have e2:dq (p::l)=p.1.size+p.2.size+2+dq l:=by unfold dq; rw [map_cons,sum_cons]
   rw [e,e2];omega
def oz (t:gX):Prop:=∀ p∈t,p.1.size≤16777216∧p.2.size≤16777216
theorem pp {t:gX} (h:dq t≤16777216):oz t:=fun p hp=>by
 have:=Aa hp
 omega
theorem wD:∀ (d:List Ch) (t:Tb.T VT) (p:ByteArray×ByteArray),p∈dL t d→p∈t∨∃ x∈d,p=(x.1,x.2.1)
 | [],t,p,h=>.inl h
 | x::d,t,p,h=>by
   have h1:p∈dL (if x.2.2=true then Tb.del t x.1 else Tb.set x.1 x.2.1 t) d:=h
   rcases wD d _ p h1 with h2 | ⟨y,hy,e⟩
   · split at h2
     · exact .inl (List.mem_filter.1 h2).1
     · rcases Tb.pY h2 with e | h2
       · exact .inr ⟨x,mem_cons_self ..,e⟩
       · exact .inl h2
   · exact .inr ⟨y,aB _ hy,e⟩
theorem th:∀ {ps:gX} {d:List Ch} {x:Ch},fI ps=some d→x∈d→∃ p∈ps,jP p=some x
 | [],d,x,h,hx=>by cases h; cases hx
 | p::l,d,x,h,hx=>by
   unfold fI at h;split at h
   · cases h
   · rename_i y hy;split at h
     · cases h
     · rename_i e he;cases h
       rcases ay.1 hx with rfl | hx
       · exact ⟨p,mem_cons_self ..,hy⟩
       · obtain ⟨q,hq,e2⟩:=th he hx;exact ⟨q,aB _ hq,e2⟩
theorem uB {S:eT} {A:AF.FS} {k:Int} {t u:Tb.T VT} (h:eR S A k t=.ok u) (hs:oz t):oz u:=by
 unfold eR at h
 split at h
 · cases h
 · rename_i ps hps;split at h
   · cases h
   · rename_i d hd;cases h;have hm:=pp (fl hps);unfold dv at hd;split at hd
     · cases hd
     · rename_i e he;split at hd
       · cases hd;intro p hp
         rcases wD _ _ _ hp with hp | ⟨x,hx,rfl⟩
         · exact hs p hp
         · obtain ⟨q,hq,hqx⟩:=th he hx;obtain ⟨c,h1,h2,_⟩:=lO hqx;have h3:q.1.size=1+x.1.size:=by rw [← aW,← aW,h1,ao]; omega
           have:=hm q hq;refine ⟨by dsimp only; omega,?_⟩;dsimp only;rw [h2];exact this.2
       · cases hd
theorem qp {S:eT} {A:AF.FS}:∀ (n:Nat) (k:Int) (t u:Tb.T VT),iF S A n k t=.ok u→oz t→oz u
 | 0,k,t,u,h,hs=>by cases h; exact hs
 | n+1,k,t,u,h,hs=>by
   rw [fS] at h;split at h
   · cases h
   · rename_i w hw;exact qp n _ _ _ h (uB hw hs)
theorem vV {S:eT} {A:AF.FS} {v:Int} {u:Tb.T VT} (h:iM S A v=.ok u):oz u:=by
 unfold iM at h
 split at h
 · cases h
 · split at h
   · cases h
   · split at h
     · cases h
     · rename_i t ht;exact qp _ _ _ _ h (pp (wC ht).2)
structure oY (ps:gX):Prop where
 len:ps.length<100000000000
 each:∀ p∈ps,p.1.size≤1000000000∧p.2.size≤1000000000
 all:(bj ps).length≤1099511627776
theorem kG {S:eT} {A:AF.FS} {v:Int} {u:Tb.T VT} (h:iM S A v=.ok u) (hn:S.D.length≤5000):oY u:=by
 have hm:=(Cy h).2
 have hs:=vV h
 have h1:=oP u
 have h2:(S.D.length+1)*16777216≤5001*16777216:=Nat.mul_le_mul_right _ (by omega)
 have hl:List.length u<100000000000:=by omega
 have he:∀ p∈u,p.1.size≤1000000000∧p.2.size≤1000000000:=fun p hp=>by have:=hs p hp; omega
 exact ⟨hl,he,by have:=vK hl he; omega⟩
theorem BF.writes {ps:gX} (h:BF ps):oY ps:=⟨by have:=h.2.1; omega,fun p hp=>by have:=h.2.2 p hp; omega,by have:=h.1; omega⟩
section
variable {F:List aG} {h:Heap} {b fsb:Nat} {S:eT} {A:AF.FS}
theorem D3 {la:Option Addr} {ll lc:Nat} {ps:List (ByteArray×ByteArray)} (hr:∀ h',aD F h'→dw h' la (ps.flatMap pairC)) (hl:ps.length=ll) (hw:oY ps) (H:aD F h) :
  aC prog 162 [.slice la ll lc,.func (.func 163) #[] #[]] h fun v h'=>∃ (a:Option Addr) (c:Nat),v=.slice a (bj ps).length c∧aD (aL 5 1 a (bj ps).length c ((bj ps).map nv)::F) h':=by
 obtain ⟨hll,hp,hsz⟩:=hw
 apply zw.ap
 unfold J6
 have e:wrap .u64 ((ll:Nat):Int)=((ps.length:Nat):Int):=by rw [hl]; exact IntWalk.u64_in _ (by omega)
 rw [e]
 refine (pe (n:=ps.length) (by omega) H).mono ?_
 rintro v h1 ⟨a,c,rfl,H1⟩
 rw [aF]
 rw [← jf] at hsz
 refine aU.upto ll (fun i (s:Sl×Int) h2=>s.2=(i:Int)∧i≤ll∧s.1.l=(gg ps.length (ps.take i)).length∧aD (aL 5 1 s.1.a s.1.l s.1.c ((gg ps.length (ps.take i)).map nv)::F) h2) (fun s=>ll - s.2.toNat) (fun i s h2 hh=>⟨hh.2.1,by rw [hh.1]; omega⟩)
  ⟨rfl,au _,by simp [gg],by simpa [gg] using H1⟩ ?_ ?_
 · rintro i ⟨⟨sa,sl,sc⟩,s2⟩ h2 again hi ⟨rfl,_,rfl,H2⟩ go;simp only at H2 ⊢;rw [af (show ((i:Int)<(ll:Int)) by omega),ab];obtain ⟨⟨k,x⟩,hx⟩:∃ x,ps[i]? = some x:=⟨_,ah (by omega)⟩
   have hkx:k.size≤1000000000∧x.size≤1000000000:=hp _ (ai hx);refine ce (f:=pairC) (sz:=2) (x:=(k,x)) bX (by decide) (hr _ H2.drop) hl hx fun b hb hc=>?_;refine ⟨.string k,hc 0 _ rfl,.string x,hc 1 _ rfl,k,x,rfl,?_⟩;refine aQ H2 fun b1 h3 H3=>?_;simp only [aS];refine dO H3 (by decide) (bP 2 0 (by decide)) fun h4 H4=>?_;refine dO (i:=1) H4 (by simp) (bP 2 1 (by decide)) fun h5 H5=>?_;have H6:aD (pt b1 (.cells #[.string k,.string x] 50 (0,0))::aL 5 1 sa (gg ps.length (ps.take i)).length sc ((gg ps.length (ps.take i)).map nv)::F) h5:=H5;refine ⟨.string k,by rw [bD H6.get]; rfl,?_⟩;refine ⟨.string x,bQ (i:=1) H6 rfl,k,x,rfl,?_⟩;refine dK ?_;refine (tE hkx.1 hkx.2 H6).mono ?_;rintro v h6 ⟨a2,c2,rfl,H7⟩;rw [aF];have hpre:gg ps.length (ps.take (i+1))=gg ps.length (ps.take i)++fO (sb k,sb x):=by
    rw [ax,hx];unfold gg;rw [flatMap_append,← append_assoc];simp
   have hle:=ug ps.length ps (i+1);rw [hpre,am] at hle;refine oX EL vr pF (H7.mv 2) (rz (aI H7) rfl) (by omega) fun a' c' h8 _ H8=>?_;rw [aF,aH (by omega)];refine go _ _ ⟨rfl,by omega,?_,?_⟩
   · rw [hpre,am]
   · rw [hpre];exact (H8.mv 1).drop.mv 1 |>.drop
 · rintro ⟨⟨sa,sl,sc⟩,s2⟩ h2 again ⟨rfl,_,rfl,H2⟩;simp only at H2 ⊢;rw [ae (by omega),aa];rw [ar (by omega),jf] at H2 ⊢;exact ⟨sa,sc,rfl,H2⟩
theorem Et {la:Option Addr} {ll lc:Nat} {ps:List (ByteArray×ByteArray)} (hr:∀ h',aD F h'→dw h' la (ps.flatMap pairC)) (hl:ps.length=ll) (hw:oY ps) (H:aD F h) :
  aC prog 113 [.slice la ll lc] h fun v h'=>(16777216<(bj ps).length∧v=.tuple #[.slice none 0 0,.int .i64 42]∧aD F h')∨
   ((bj ps).length≤16777216∧∃ (a:Option Addr) (c:Nat),v=.tuple #[.slice a (bj ps).length c,.int .i64 0]∧aD (aL 5 1 a (bj ps).length c ((bj ps).map nv)::F) h'):=by
 have hsz:=hw.all
 apply zB.ap
 unfold Kj
 refine (D3 hr hl hw H).mono ?_
 rintro v h1 ⟨a,c,rfl,H1⟩
 rw [aF]
 apply zx.ap
 unfold J7
 by_cases hb:16777216<(bj ps).length
 · rw [af (show (((bj ps).length:Int)>16777216) by omega),ab];exact ⟨none,0,0,42,rfl,.inl ⟨hb,rfl,H1.drop⟩⟩
 · rw [ae (show ¬ (((bj ps).length:Int)>16777216) by omega),aa];exact ⟨a,_,c,0,rfl,.inr ⟨by omega,a,c,rfl,H1⟩⟩
def eT.layG (S:eT) (A:AF.FS) (c:Nat) (v:Int) (ps:gX):AF.FS×eT×Nat:=if 16777216<(bj ps).length then (A,S,42) else S.lay A c v ps
theorem FO {c q dm nm:Nat} {sg:ByteArray} {v:Int} {la:Option Addr} {ll lc:Nat} {ps:gX} (hc:(c=100∧q=dm)∨(c=110∧q=nm)) (hs:sg++⟨#[46]⟩=cn [c,46]) (hz:sg.size=1)
  (W:A.WF) (hst:A.steps+10<1099511627776) (hd:S.dir.size<4611686018427387904) (hf:oY ps) (hr:∀ h',aD F h'→dw h' la (ps.flatMap pairC)) (hl:ps.length=ll)
  (H:aD (pt b (.cells (nw fsb S.dir dm nm) 86 (0,0))::gu Bu dm S.D::gu Bu nm S.N::cg fsb A::F) h) :
  aC prog 45 [aJ b,.map (some q),.string sg,.int .i64 v,.slice la ll lc] h fun r h'=>r=.int .i64 (((S.layG A c v ps).2.2:Nat):Int)∧(S.layG A c v ps).1.WF∧
   aD (dg b fsb (S.layG A c v ps).2.1::cg fsb (S.layG A c v ps).1::F) h':=by
 have hr':∀ h',aD (pt b (.cells (nw fsb S.dir dm nm) 86 (0,0))::gu Bu dm S.D::gu Bu nm S.N::cg fsb A::F) h'→dw h' la (ps.flatMap pairC):=fun h' hh=>hr h' (hh.rest 4)
 apply Dv.ap
 unfold NA
 refine (Et (ps:=ps) hr' hl hf H).mono ?_
 rintro r h1 (⟨hbig,rfl,H1⟩ | ⟨hle,a,cc,rfl,H1⟩)
 · refine ⟨none,0,0,42,rfl,?_⟩;rw [show ((42:Int)!=0)=true from rfl,ab];have e:S.layG A c v ps=(A,S,42):=al hbig;rw [e];exact ⟨rfl,W,db H1⟩
 have e0:S.layG A c v ps=S.lay A c v ps:=ak (by omega)
 rw [e0]
 refine ⟨a,(bj ps).length,cc,0,rfl,?_⟩
 rw [show ((0:Int)!=0)=false from rfl,aa,aY]
 refine mu (x:=fsb) (H1.mv 1) rfl ?_
 rw [aY]
 refine bu (x:=S.dir) (H1.mv 1) rfl ?_
 refine (lV (n:=v) hs hz H1).mono ?_
 rintro r h2 ⟨rfl,H2⟩
 rw [aR]
 refine ⟨rfl,rfl,rfl,mu (x:=fsb) (H2.mv 1) rfl rfl,rfl,rfl,rfl,bu (x:=S.dir) (H2.mv 1) rfl rfl,rfl,?_⟩
 refine (tK (bs:=bj ps) (name:=cI c v) W hst hd (by rw [fL]; decide) (fun h' hh=>aI hh) (l7 ps) rfl (by omega) (H2.ordT 5 [4,0,1,2,3])).mono ?_
 rintro r h3 ⟨rfl,W3,hs3,H3⟩
 rw [aK]
 by_cases he:(A.put S.dir (cI c v) (bj ps)).2=0
 · have e2:S.lay A c v ps=((A.put S.dir (cI c v) (bj ps)).1,gP S c v,0):=by unfold eT.lay; rw [he,al rfl]
   rw [he,e2,show (((0:Nat):Int)!=0)=false from rfl,aa]
   rcases hc with ⟨rfl,rfl⟩ | ⟨rfl,rfl⟩
   · have H4:=fM (S:=Bu () (.agg #[])) (fun h _=>rfl) (j4 H3);refine lZ (kt:=2) (et:=81) (x:=()) (by kernel_rfl) (by kernel_rfl) (H4.ordT 6 [4,0,1,2,3,5]) fun h4 H5=>?_;exact ⟨rfl,W3,db (S:=gP S 100 v) (H5.ordT 5 [3,0,4,1])⟩
   · have H4:=fM (S:=Bu () (.agg #[])) (fun h _=>rfl) (j4 H3);refine lZ (kt:=2) (et:=81) (x:=()) (by kernel_rfl) (by kernel_rfl) (H4.ordT 6 [5,0,1,2,3,4]) fun h4 H5=>?_;exact ⟨rfl,W3,db (S:=gP S 110 v) (H5.ordT 5 [3,4,0,1])⟩
 · have e2:S.lay A c v ps=((A.put S.dir (cI c v) (bj ps)).1,S,(A.put S.dir (cI c v) (bj ps)).2):=by unfold eT.lay; rw [ak he]
   rw [bm he,ab,e2];exact ⟨rfl,W3,db (S:=S) (H3.ordT 5 [2,3,4,0])⟩
open Classical in
noncomputable def j0 (S:eT) (A:AF.FS) (v:Int):AF.FS×eT×Nat:=if v<1∨1099511627776<v then (A,S,2) else if (v,())∈S.N then (A,S,0) else match iM S A v with
 | .error e=>(A,S,e)
 | .ok t=>S.layG A 110 v t
theorem vI {b:Nat} {ps:gX} {x y:ByteArray} {K:Heap→Prop} (hl:ps.length<100000000000) (H:aD (vJ b ps::F) h) (hK:∀ h',aD (vJ b (ps++[(x,y)])::F) h'→K h') :
  Ld h (Addr.mk b 0 none) fun v=>aX v fun xa xl xc=>Al h (.cells #[.string x,.string y] 50) fun b2 h2=>bi prog (append_ #[41,41] 41 #[.slice xa xl xc,.slice (some (Addr.mk b2 0 none)) 1 1]) h2 fun r h3=>
   aX r fun ya yl yc=>bI h3 ((Addr.mk b 0 none).add 0) (.slice ya yl yc) K:=by
 obtain ⟨a,c,H1⟩:=oG H
 refine Kr H1.get ?_
 refine aQ H1 fun b2 h2 H2=>?_
 refine iW zI ox oT (H2.mv 2) (n:=1) (ys:=pairC (x,y)) (bV (lm H2 rfl) rfl) (by intro u hu; simp [pairC] at hu; rcases hu with rfl | rfl <;> rfl) (by omega) fun a' c' h3 _ H3=>?_
 rw [aF]
 refine cd (H3.mv 2) (by exact Nat.zero_lt_one) rfl fun h4 H4=>hK h4 ?_
 refine oF (a:=a') (c:=c') ?_
 rw [flatMap_append,am]
 have e:([(x,y)]:gX).flatMap pairC=pairC (x,y):=by simp
 rw [e]
 exact H4.ordT 3 [0,1]
set_option maxHeartbeats 2000000 in
theorem zz {v:Int} (O:mH S) (W:A.WF) (hs:A.steps+10<1099511627776) (hd:S.dir.size<4611686018427387904) (hD:S.D.length≤5000) (H:aD (dg b fsb S::cg fsb A::F) h) :
  aC prog 11 [aJ b,.int .i64 v] h fun r h'=>r=.int .i64 (((j0 S A v).2.2:Nat):Int)∧(j0 S A v).1.WF∧aD (dg b fsb (j0 S A v).2.1::cg fsb (j0 S A v).1::F) h':=by
 apply Kg.ap
 unfold OM
 refine (rm (v:=v)).mono ?_
 rintro r h0 ⟨rfl,rfl⟩
 unfold j0
 rw [aK]
 by_cases hv:v<1∨1099511627776<v
 · rw [al hv,show ((2:Int)!=0)=true from rfl,ab,al hv];exact ⟨rfl,W,H⟩
 rw [ak hv,show ((0:Int)!=0)=false from rfl,aa,aY,ak hv]
 obtain ⟨dm,nm,H1⟩:=gC H
 refine rh (x:=nm) H1 rfl ?_
 obtain ⟨es,f,h3,h4,h5,h6⟩:=nt (H1.mv 2) v
 refine ⟨es,h3,f,h5,?_⟩
 rcases h6 with ⟨rfl,hg⟩ | ⟨j,x,y,rfl,hg,hB⟩
 rotate_left
 · have hx:x=.agg #[]:=hB;subst hx;refine ⟨rfl,?_⟩;refine aQ H fun b0 h7 H7=>?_;rw [show (Option.isSome (some (j,Value.agg #[])))=true from rfl,ab,al (lF hg)];exact ⟨rfl,W,H7.drop⟩
 · have hnot:(v,())∉S.N:=fun hm=>by
    rw [kd O.upN hm] at hg;cases hg
   refine ⟨rfl,?_⟩;refine aQ H fun b0 h7 H7=>?_;rw [show (Option.isSome (none:Option (Nat×Value)))=false from rfl,aa,ak hnot];refine (uM (v:=v) O W hd H7.drop).mono ?_;rintro r h8 (⟨u,t,hu,rfl,H8⟩ | ⟨e,hu,e0,rfl,H8⟩)
   rotate_left
   · refine ⟨none,(e:Int),rfl,?_⟩;rw [bm e0,ab,hu];exact ⟨rfl,W,H8⟩
   · have hw:=kG hu hD;have hul:=hw.len;rw [hu];refine ⟨some ⟨t,0,none⟩,0,rfl,?_⟩;rw [show ((0:Int)!=0)=false from rfl,aa];refine aQ H8 fun b1 h9 H9=>?_;have H9':aD (vJ b1 []::dG t u::dg b fsb S::cg fsb A::F) h9:=oF (a:=none) (c:=0) ((bG 50 2 H9).ordT 2 [1,0]);refine (TS.F46_spec (by omega) (H9'.mv 1)).mono ?_;rintro r h10 ⟨q,c0,c1,rfl,H10⟩;refine ⟨_,rfl,?_⟩;refine TS.range_tab (fun i=>vJ b1 (u.take i)::dG t u::dg b fsb S::cg fsb A::F) (fun _=>[mC False]) (H10.ordT 3 [0,2,1]) ?_ ?_ (fun j h3 H3=>(cC.1 (H3.mv 1)).1.elim)
     · intro i p L rec h11 Q hp HR go _;refine ⟨p.1,p.2,rfl,HR.get,?_⟩;have HB:=HR.set (rec .busy none);have hil:=(aj.1 hp).1;refine vI (by rw [aq]; omega) (HB.mv 3) fun h12 H12=>go h12 ?_;have e:u.take (i+1)=u.take i++[(p.1,p.2)]:=by rw [ax,hp]; rfl
       rw [e];exact H12.ordT 4 [1,2,3,0]
     · intro h11 H11;refine ⟨rfl,?_⟩;rw [take_length] at H11;obtain ⟨dm,nm,H12⟩:=gC (H11.mv 4);rw [aY];refine rh (x:=nm) H12 rfl ?_;obtain ⟨a,cc,H13⟩:=oG (H12.mv 5);refine Kr H13.get ?_;refine (FO (F:=pt b1 (.cells #[.slice a u.length cc] 41 (0,0))::aL 50 2 a u.length cc (u.flatMap pairC)::iL h10.size::jd q c0 c1 u::dG t u::F) (c:=110) (v:=v) (ps:=u) (.inr ⟨rfl,rfl⟩) M5 rfl W hs hd hw (fun h' hh=>aI (hh.mv 1)) rfl (H13.ordT 9 [2,3,4,8,0,1,5,6,7])).mono ?_;rintro r h12 ⟨rfl,W3,H14⟩;rw [aK];refine ⟨(H14.mv 4).get,?_⟩;have H15:=(H14.mv 4).set (.deferred none);exact ⟨rfl,W3,H15.ordT 7 [1,2]⟩
theorem Hh {v:Int} {pa pb:Option Addr} (hv:v<1∨1099511627776<v):aC prog 10 [aJ b,.int .i64 v,.pointer pa,.pointer pb] h fun r h'=>r=.int .i64 2∧h'=h:=by
 apply Ev.ap
 unfold NB
 refine (rm (v:=v)).mono ?_
 rintro r h0 ⟨rfl,rfl⟩
 rw [al hv,aK,show ((2:Int)!=0)=true from rfl,ab]
 exact ⟨rfl,rfl⟩
end
open Go Go.RowKit
open Hex (gZ cE hv uh dp)
section
variable {F:List aG} {h:Heap}
theorem Dk {s:ByteArray} (hz:s.size≤4000) (H:aD F h):aC prog 66 [.string s] h fun v h'=>v=xv (dp (sb s))∧aD F h':=by
 apply Jf.ap
 unfold N3
 have hsl:=aW s
 have h8:=fx s
 by_cases hs16:s.size=16
 · rw [show (((s.size:Nat):Int)!=16)=false from by rw [hs16]; rfl,aa];refine ⟨by omega,by omega,?_⟩;obtain ⟨x0,hx0⟩:∃ x,(sb s)[0]? = some x:=⟨_,ah (by omega)⟩
   have hb0:=iO hx0;rw [show (((0:Nat):Int))=(0:Int) from rfl] at hb0;rw [hb0];by_cases h55:x0>55
   · rw [af (by omega),ab];have:dp (sb s)=none:=by
      unfold dp;rw [al (by omega)]
      cases hu:uh (sb s) 0 with
      | none=>rfl
      | some v=>
        have hcons:sb s=x0::(sb s).drop 1:=by
         cases hs:sb s with
         | nil=>rw [hs] at hx0; cases hx0
         | cons y l=>rw [hs] at hx0; cases hx0; rfl
        rw [hcons] at hu;unfold uh at hu
        cases hv0:hv x0 with
        | none=>rw [hv0] at hu; cases hu
        | some k=>
          rw [hv0] at hu;have hge:=Hex.BO _ _ _ hu;have hk8:8≤k:=by
           unfold hv at hv0;split at hv0
           · cases hv0; omega
           · split at hv0
             · cases hv0; omega
             · cases hv0
          have hl15:((sb s).drop 1).length=15:=by rw [length_drop]; omega
          rw [hl15] at hge;have:8*16^15≤(16*0+k)*16^15:=Nat.mul_le_mul_right _ (by omega);have hv2:9223372036854775808≤v:=Nat.le_trans (Nat.le_trans (by decide) this) hge;simp only [ak (show ¬ v<9223372036854775808 by omega)]
     rw [this];exact ⟨rfl,H⟩
   · rw [ae (by omega),aa];refine ⟨fun st hh=>hh=h∧∃ (i n:Nat),st=((n:Int),(i:Int))∧i≤16∧uh ((sb s).take i) 0=some n∧(i=0→n=0)∧(0<i→n<8*16^(i - 1)),fun st _=>(16 - st.2).toNat,⟨rfl,0,0,rfl,au _,rfl,fun _=>rfl,fun h=>by omega⟩,?_⟩;rintro st h2 ⟨rfl,i,n,rfl,hi,hn,hz0,hlt⟩;by_cases hil:i<16
     · rw [af (show ((i:Int)<16) by omega),ab];refine ⟨by omega,by omega,?_⟩;obtain ⟨x,hx⟩:∃ x,(sb s)[i]? = some x:=⟨_,ah (by omega)⟩
       have hx8:=h8 x (ai hx);rw [iO hx];have htake:uh ((sb s).take (i+1)) 0=uh [x] n:=by
        rw [ax,hx];show uh ((sb s).take i++[x]) 0=_;rw [Hex.jT,hn]
        rfl
       have bad:hv x=none→xv (dp (sb s))=.tuple #[.int .i64 0,.bool false]:=by
        intro hvx;have hu:uh (sb s) 0=none:=by
         rw [← take_append_drop (i+1) (sb s),Hex.jT,htake];unfold uh;rw [hvx]
         rfl
        have:dp (sb s)=none:=by
         unfold dp;rw [hu];simp
        rw [this]
        rfl
       have hnb:n≤576460752303423487:=by
        by_cases hi0:i=0
        · rw [hz0 hi0]; omega
        · have h1:=hlt (by omega);have h2:16^(i - 1)≤72057594037927936:=Nat.le_trans (Nat.pow_le_pow_right (by omega) (show i - 1≤14 by omega)) (by decide);omega
       have good:∀ k,hv x=some k→(h2=h2∧∃ (j n':Nat),(((16*n+k:Nat):Int),wrap .i64 ((i:Int)+1))=(((n':Nat):Int),(j:Int))∧j≤16∧uh ((sb s).take j) 0=some n'∧(j=0→n'=0)∧(0<j→n'<8*16^(j - 1)))∧(16 - wrap .i64 ((i:Int)+1)).toNat<(16 - (i:Int)).toNat:=by
        intro k hk;have hk15:=Hex.yV hk;rw [aH (by omega)];refine ⟨⟨rfl,i+1,16*n+k,rfl,by omega,?_,fun h=>by omega,fun _=>?_⟩,by omega⟩
        · rw [htake];unfold uh;rw [hk]
          rfl
        · show 16*n+k<8*16^i;by_cases hi0:i=0
          · subst hi0;rw [hz0 rfl];have hxx:x=x0:=by rw [hx0] at hx; exact (Option.some.inj hx).symm
            have:k≤7:=by
             unfold hv at hk;split at hk
             · cases hk; omega
             · split at hk
               · cases hk; omega
               · cases hk
            simp;omega
          · have h1:=hlt (by omega);have hp:16^i=16^(i - 1)*16:=by rw [← Nat.pow_succ]; congr 1; omega
            rw [hp];omega
       by_cases h48:48≤x
       · rw [af (show ((x:Int)≥48) by omega),ab];by_cases h57:x≤57
         · rw [af (show ((x:Int)≤57) by omega),ab];have w:wrap .i64 (wrap .i64 ((n:Int)*16)+wrap .i64 (wrap .u8 ((x:Int) - 48)))=((16*n+(x - 48):Nat):Int):=by
            rw [IntWalk.i64_in ((n:Int)*16) (by omega),IntWalk.u8_in ((x:Int) - 48) (by omega),IntWalk.i64_in ((x:Int) - 48) (by omega),IntWalk.i64_in _ (by omega)];omega
           rw [w];exact good (x - 48) (by unfold hv; rw [al ⟨h48,h57⟩])
         · rw [ae (show ¬ ((x:Int)≤57) by omega),aa];by_cases h97:97≤x
           · rw [af (show ((x:Int)≥97) by omega),ab];by_cases h102:x≤102
             · rw [af (show ((x:Int)≤102) by omega),ab];have w:wrap .i64 (wrap .i64 (wrap .i64 ((n:Int)*16)+wrap .i64 (wrap .u8 ((x:Int) - 97)))+10)=((16*n+(x - 87):Nat):Int):=by
                rw [IntWalk.i64_in ((n:Int)*16) (by omega),IntWalk.u8_in ((x:Int) - 97) (by omega),IntWalk.i64_in ((x:Int) - 97) (by omega),IntWalk.i64_in ((n:Int)*16+((x:Int) - 97)) (by omega),IntWalk.i64_in _ (by omega)];omega
               rw [w];exact good (x - 87) (by unfold hv; rw [ak (by omega),al ⟨h97,h102⟩])
             · rw [ae (show ¬ ((x:Int)≤102) by omega),aa,bad (by unfold hv; rw [ak (by omega),ak (by omega)])];exact ⟨rfl,H⟩
           · rw [ae (show ¬ ((x:Int)≥97) by omega),aa,bad (by unfold hv; rw [ak (by omega),ak (by omega)])];exact ⟨rfl,H⟩
       · rw [ae (show ¬ ((x:Int)≥48) by omega),aa,ae (show ¬ ((x:Int)≥97) by omega),aa,bad (by unfold hv; rw [ak (by omega),ak (by omega)])];exact ⟨rfl,H⟩
     · rw [ae (by omega),aa];have ei:i=16:=by omega
       subst ei;rw [ar (by omega)] at hn;have hlt2:n<9223372036854775808:=hlt (by omega);have hu:dp (sb s)=some n:=by
        unfold dp;rw [al (by omega),hn];simp only [al hlt2]
       rw [hu];exact ⟨rfl,H⟩
 · rw [show (((s.size:Nat):Int)!=16)=true from by rw [bne_iff_ne]; omega,ab];have:dp (sb s)=none:=by
    unfold dp;rw [ak (by omega)]
   rw [this];exact ⟨rfl,H⟩
end
abbrev Ks:=List (ByteArray×ByteArray)
def Ij (a:Nat):Option (Nat×Nat)→Value
 | some (n,k)=>.tuple #[.int .u64 (n:Int),.int .i64 ((a+k:Nat):Int)]
 | none=>.tuple #[.int .u64 0,.int .i64 (-1)]
def BH (s:ByteArray):Option (List Nat×List Nat)→Value
 | some (w,r)=>.tuple #[.string (cn w),.int .i64 ((s.size - r.length:Nat):Int)]
 | none=>.tuple #[.string .empty,.int .i64 (-1)]
section
variable {F:List aG} {h:Heap}
theorem D1 {s:ByteArray}:aC prog 190 [.string s,.int .i64 (-1)] h fun v h'=>h'=h∧v=Ij 0 none:=by
 apply zt.ap
 unfold JY
 refine aU.by (fun st h2=>h2=h∧st=((0:Int),(0:Int))) (fun _=>0) ⟨rfl,rfl⟩ ?_
 rintro st h2 again ⟨rfl,rfl⟩ go
 dsimp only
 rw [show decide ((0:Int)<10)=true from rfl,ab,show decide ((-1:Int)<0)=true from rfl,ab]
 exact ⟨rfl,rfl⟩
set_option maxHeartbeats 1000000 in
set_option maxRecDepth 20000 in
theorem tz {s:ByteArray} {p:Nat} (hs:s.size≤1099511627776) (hp:p≤s.size):aC prog 190 [.string s,.int .i64 (p:Int)] h fun v h'=>h'=h∧v=Ij p (ci 0 0 ((sb s).drop p)):=by
 have hsl:=aW s
 have h8:=fx s
 apply zt.ap
 unfold JY
 refine aU.by (fun st h2=>h2=h∧∃ (i acc:Nat),st=((acc:Int),(i:Int))∧p+i≤s.size∧(i≤9∨False)∧acc<2^(7*i)∧ci 0 0 ((sb s).drop p)=ci i acc ((sb s).drop (p+i))) (fun st=>10 - st.2.toNat) ⟨rfl,0,0,rfl,hp,.inl (by decide),by decide,rfl⟩ ?_
 rintro st h2 again ⟨rfl,i,acc,rfl,hi,h99,ha,hg⟩ go
 have hi9:i≤9:=h99.resolve_right id
 dsimp only
 rw [af (show (i:Int)<10 by omega),ab,ae (show ¬ (p:Int)<0 by omega),aa]
 have e1:wrap .i64 ((p:Int)+(i:Int))=((p+i:Nat):Int):=by rw [IntWalk.i64_in _ (by omega)]; omega
 rw [e1]
 by_cases hil:p+i<s.size
 rotate_left
 · rw [af (show ((p+i:Nat):Int)≥(s.size:Int) by omega),ab];refine ⟨rfl,?_⟩;rw [hg,drop_of_length_le (by omega)]
   rfl
 rw [ae (show ¬ ((p+i:Nat):Int)≥(s.size:Int) by omega),aa]
 obtain ⟨c,hc⟩:∃ x,(sb s)[p+i]? = some x:=⟨_,ah (by omega)⟩
 have hc8:c<256:=h8 _ (ai hc)
 have hdrop:(sb s).drop (p+i)=c::(sb s).drop (p+i+1):=by
  rw [drop_eq_getElem_cons (by omega)];rw [ah (by omega)] at hc;rw [Option.some.inj hc]
 rw [hdrop] at hg
 have e7:wrap .u64 (wrap .i64 (7*(i:Int)))=((7*i:Nat):Int):=by rw [IntWalk.i64_in _ (by omega),IntWalk.u64_in _ (by omega)]; omega
 have em:Int.tmod (c:Int) 128=((c%128:Nat):Int):=jb c 128
 rw [iO hc,IntWalk.u64_in (c:Int) (by omega),em,e7]
 have hw1:wrap .i64 ((i:Int)+1)=((i+1:Nat):Int):=aH (by omega)
 have hw2:wrap .i64 (((p+i:Nat):Int)+1)=((p+(i+1):Nat):Int):=by rw [IntWalk.i64_in _ (by omega)]; omega
 rw [hw1,hw2]
 refine ⟨by omega,by omega,?_⟩
 have bad:((i=9∧1<c)∨(0<i∧c=0))→Value.tuple #[.int .u64 0,.int .i64 (-1)]=Ij p (ci 0 0 ((sb s).drop p)):=fun hb=>by
  rw [hg];unfold ci;rw [al hb]
  rfl
 by_cases hno:(i=9∧1<c)
 · rw [li (show (i:Int)=9 by omega),ab,af (show (c:Int)>1 by omega),ab];exact ⟨rfl,bad (.inl hno)⟩
 have h9:i=9→c≤1:=fun e=>by
  by_cases hc1:1<c
  · exact absurd ⟨e,hc1⟩ hno
  · omega
 obtain ⟨b1,b2,b3⟩:=jF hi9 ha h9
 have esh:ft .u64 ((c%128:Nat):Int) ((7*i:Nat):Int)=((c%128*2^(7*i):Nat):Int):=Ht (by omega) b1
 have esum:wrap .u64 ((acc:Int)+((c%128*2^(7*i):Nat):Int))=((acc+c%128*2^(7*i):Nat):Int):=by rw [IntWalk.u64_in _ (by omega)]; omega
 rw [esh,esum]
 have fin:(128:Int)≠0∧0≤((7*i:Nat):Int)∧(bif decide ((c:Int)<128) then
   (bif decide ((i:Int)>0) then
    (bif (c:Int)==0 then h2=h2∧Value.tuple #[.int .u64 0,.int .i64 (-1)]=Ij p (ci 0 0 ((sb s).drop p))
    else h2=h2∧Value.tuple #[.int .u64 ((acc+c%128*2^(7*i):Nat):Int),.int .i64 ((p+(i+1):Nat):Int)]=Ij p (ci 0 0 ((sb s).drop p)))
   else h2=h2∧Value.tuple #[.int .u64 ((acc+c%128*2^(7*i):Nat):Int),.int .i64 ((p+(i+1):Nat):Int)]=Ij p (ci 0 0 ((sb s).drop p)))
   else again (((acc+c%128*2^(7*i):Nat):Int),((i+1:Nat):Int)) h2):=by
  refine ⟨by decide,by omega,?_⟩;by_cases hz:0<i∧c=0
  · rw [af (show (c:Int)<128 by omega),ab,af (show (i:Int)>0 by omega),ab,li (show (c:Int)=0 by omega),ab];exact ⟨rfl,bad (.inr hz)⟩
  have hno2:¬ ((i=9∧1<c)∨(0<i∧c=0)):=fun hh=>hh.elim hno hz
  conv at hg=>rhs; unfold ci
  rw [ak hno2] at hg;by_cases hlt:c<128
  · rw [af (show (c:Int)<128 by omega),ab];rw [al hlt] at hg;have good:h2=h2∧Value.tuple #[.int .u64 ((acc+c%128*2^(7*i):Nat):Int),.int .i64 ((p+(i+1):Nat):Int)]=Ij p (ci 0 0 ((sb s).drop p)):=⟨rfl,by rw [hg]; rfl⟩
    by_cases h0:0<i
    · rw [af (show (i:Int)>0 by omega),ab,jq (show ¬ (c:Int)=0 by omega),aa];exact good
    · rw [ae (show ¬ (i:Int)>0 by omega),aa];exact good
  · rw [ae (show ¬ (c:Int)<128 by omega),aa];rw [ak hlt] at hg;have hi8:i≤8:=by by_cases e:i=9 <;> omega
    exact go _ _ ⟨rfl,i+1,_,rfl,by omega,.inl (by omega),b3,by rw [hg,show p+(i+1)=p+i+1 by omega]⟩ (by simp only [Int.toNat_natCast]; omega)
 by_cases e9:i=9
 · rw [li (show (i:Int)=9 by omega),ab,ae (show ¬ (c:Int)>1 by have:=h9 e9; omega),aa];exact fin
 · rw [jq (show ¬ (i:Int)=9 by omega),aa];exact fin
theorem nq {l w r:List Nat} (h:fh l=some (w,r)):r=l.drop (l.length - r.length)∧r.length<l.length:=by
 have h0:=ik h
 refine ⟨?_,by omega⟩
 unfold fh at h
 split at h
 · cases h
 · rename_i n k hk;have hb:=jS _ _ _ _ _ hk;split at h
   · cases h
   · rename_i hn;cases h;rw [length_drop] at hn;simp only [length_drop] at h0 ⊢;rw [drop_drop];congr 1;omega
theorem DZ {s:ByteArray}:aC prog 191 [.string s,.int .i64 (-1)] h fun v h'=>h'=h∧v=BH s none:=by
 apply zr.ap
 unfold JX
 refine (D1 (s:=s)).mono ?_
 rintro v h1 ⟨rfl,rfl⟩
 refine ⟨0,-1,rfl,?_⟩
 rw [show decide ((-1:Int)<0)=true from rfl,ab]
 exact ⟨rfl,rfl⟩
theorem tx {s:ByteArray} {p:Nat} (hs:s.size≤1099511627776) (hp:p≤s.size):aC prog 191 [.string s,.int .i64 (p:Int)] h fun v h'=>h'=h∧v=BH s (fh ((sb s).drop p)):=by
 have hsl:=aW s
 apply zr.ap
 unfold JX
 refine (tz hs hp).mono ?_
 rintro v h1 ⟨rfl,rfl⟩
 unfold fh
 cases hu:ci 0 0 ((sb s).drop p) with
 | none=>
   refine ⟨0,-1,rfl,?_⟩;rw [show decide ((-1:Int)<0)=true from rfl,ab];exact ⟨rfl,rfl⟩
 | some q=>
   obtain ⟨n,k⟩:=q;have hk:=jS _ _ _ _ _ hu;have hn:=jR _ _ _ _ _ (by decide) (by decide) hu;rw [length_drop,hsl] at hk;refine ⟨(n:Int),((p+k:Nat):Int),rfl,?_⟩;have e1:wrap .u64 (wrap .i64 ((s.size:Int) - ((p+k:Nat):Int)))=((s.size - (p+k):Nat):Int):=by rw [IntWalk.i64_in _ (by omega),IntWalk.u64_in _ (by omega)]; omega
   rw [ae (show ¬ ((p+k:Nat):Int)<0 by omega),aa,e1];have hl2:(((sb s).drop p).drop k).length=s.size - (p+k):=by rw [length_drop,length_drop,hsl]; omega
   simp only [];by_cases hlt:s.size - (p+k)<n
   · rw [af (show (n:Int)>((s.size - (p+k):Nat):Int) by omega),ab,al (by omega)];exact ⟨by trivial,rfl⟩
   · rw [ae (show ¬ (n:Int)>((s.size - (p+k):Nat):Int) by omega),aa,ak (by omega)];have e2:wrap .i64 (((p+k:Nat):Int)+wrap .i64 (n:Int))=((p+k+n:Nat):Int):=by rw [cv (by omega),IntWalk.i64_in _ (by omega)]; omega
     rw [e2];refine ⟨by omega,by omega,by omega,by trivial,?_⟩;rw [Int.toNat_natCast,Int.toNat_natCast];have h8:B8 ((((sb s).drop p).drop k).take n):=(((fx s).dropN p).dropN k).takeN n;have e3:s.extract (p+k) (p+k+n)=cn ((((sb s).drop p).drop k).take n):=gL (by rw [cN,bR h8,drop_drop]; congr 1; omega);have e4:s.size - ((((sb s).drop p).drop k).drop n).length=p+k+n:=by rw [length_drop,hl2]; omega
     unfold BH;simp only [];rw [e3,e4]
def MR (s:ByteArray) (F:List aG) (v:Value) (h':Heap):Prop:=
 (∃ ps a c,co (sb s)=some ps∧v=.tuple #[.slice a ps.length c,.bool true]∧aD (aL 50 2 a ps.length c (ps.flatMap pairC)::F) h')∨
 (co (sb s)=none∧v=.tuple #[.slice none 0 0,.bool false]∧aD F h')
set_option maxHeartbeats 2000000 in
theorem Bl {s:ByteArray} (hs:s.size≤1099511627776) (H:aD F h):aC prog 138 [.string s] h (MR s F):=by
 have hsl:=aW s
 apply GM.ap
 unfold Mm
 refine (tz (p:=0) hs (au _)).mono ?_
 rintro v h1 ⟨rfl,rfl⟩
 rw [drop_zero]
 have fail:∀ {K:Prop} {x:Int} {h2:Heap} {a:Option Addr} {l c:Nat},x≠(s.size:Int)→co (sb s)=none→aD F h2→(bif (x:Int)!=(s.size:Int) then MR s F (.tuple #[.slice none 0 0,.bool false]) h2 else K):=by
  intro K x h2 a l c hx hu H2;rw [show ((x !=(s.size:Int))=true) from bne_iff_ne.2 hx,ab];exact .inr ⟨hu,rfl,H2⟩
 cases hu:ci 0 0 (sb s) with
 | none=>
   refine ⟨0,-1,rfl,?_⟩;have hnone:co (sb s)=none:=by unfold co; rw [hu]
   refine aU.by (fun st h2=>st=((-1:Int),(⟨none,0,0⟩:Sl),(0:Int))∧aD F h2) (fun _=>0) ⟨rfl,H⟩ ?_;rintro st h2 again ⟨rfl,H2⟩ go;dsimp only;rw [show decide ((0:Int)<0)=false from rfl,aa];exact fail (a:=none) (l:=0) (c:=0) (by omega) hnone H2
 | some q=>
   obtain ⟨n,k⟩:=q;have hk:=jS _ _ _ _ _ hu;have hn:=jR _ _ _ _ _ (by decide) (by decide) hu;rw [hsl] at hk;refine ⟨(n:Int),((0+k:Nat):Int),rfl,?_⟩;rw [Nat.zero_add];have hnone:bK n ((sb s).drop k)=none→co (sb s)=none:=fun e=>by unfold co; rw [hu]; simp only []; rw [e]
   have hsome:∀ {ps:Ks} {r:List Nat},bK n ((sb s).drop k)=some (ps,r)→r≠[]→co (sb s)=none:=fun {ps r} e hr=>by
    unfold co;rw [hu];simp only [];rw [e]
    cases r with
    | nil=>exact absurd rfl hr
    | cons x r=>rfl
   generalize hl0:(sb s).drop k=l0 at hnone hsome;have hl0l:l0.length=s.size - k:=by rw [← hl0,length_drop,hsl]
   refine aU.by (fun (st:Int×Sl×Int) h2=>∃ (i:Nat) (xs:Ks),st.2.2=(i:Int)∧st.2.1.l=xs.length∧xs.length=i∧i≤n∧aD (aL 50 2 st.2.1.a xs.length st.2.1.c (xs.flatMap pairC)::F) h2∧
    ((st.1 = -1∧bK n l0=none)∨∃ r:List Nat,st.1=((s.size - r.length:Nat):Int)∧r.length≤s.size∧r=(sb s).drop (s.size - r.length)∧2*i+r.length≤l0.length∧bK n l0=more xs (bK (n - i) r)))
    (fun st=>if st.1 = -1 then 0 else 1+(n - st.2.2.toNat)) ⟨0,[],rfl,rfl,rfl,au _,bG 50 2 H,.inr ⟨l0,?_,by omega,?_,by omega,?_⟩⟩ ?_
   · dsimp only;rw [hl0l];congr 1;omega
   · rw [hl0l,← hl0];congr 1;omega
   · rw [Nat.sub_zero]
     cases bK n l0 with
     | none=>rfl
     | some q=>rfl
   rintro ⟨M4,⟨oa,ol,oc⟩,NE⟩ h2 again ⟨i,xs,rfl,hol,hxi,hin,H2,hcase⟩ go;dsimp only at hol H2 hcase ⊢;subst hol
   rcases hcase with ⟨rfl,hno⟩ | ⟨r,rfl,hrl,hrd,hlen,hun⟩
   · -- there is no place
     have hne:(-1:Int)≠(s.size:Int):=by omega
     by_cases hlt:i<n
     · rw [af (show (i:Int)<(n:Int) by omega),ab,show decide ((-1:Int)≥0)=false from rfl,aa];exact fail (a:=none) (l:=0) (c:=0) hne (hnone hno) H2.drop
     · rw [ae (show ¬ (i:Int)<(n:Int) by omega),aa];exact fail (a:=none) (l:=0) (c:=0) hne (hnone hno) H2.drop
   by_cases hlt:i<n
   · rw [af (show (i:Int)<(n:Int) by omega),ab,af (show ((s.size - r.length:Nat):Int)≥0 by omega),ab];have hni:n - i=(n - (i+1))+1:=by omega
     have hw:wrap .u64 ((i:Int)+1)=((i+1:Nat):Int):=by rw [IntWalk.u64_in _ (by omega)]; omega
     rw [hw];refine aQ H2 fun b0 h3 H3=>?_;simp only [aS];refine dO H3 (by decide) (bP 2 0 (by decide)) fun h4 H4=>?_;refine dO (i:=1) H4 (by simp) (bP 2 1 (by decide)) fun h5 H5=>?_;have hsm:s.size - r.length≤s.size:=by omega
     have push:∀ {h6:Heap} {x y:ByteArray} {K:Value→Heap→Prop},aD (pt b0 (.cells #[.string x,.string y] 50 (0,0))::aL 50 2 oa xs.length oc (xs.flatMap pairC)::F) h6→
      (∀ a' c' h7,aD (aL 50 2 a' (xs++[(x,y)]).length c' ((xs++[(x,y)]).flatMap pairC)::F) h7→K (.slice a' (xs.length+1) c') h7)→
      Ld h6 (Addr.mk b0 0 none) fun c0=>Ld h6 ((Addr.mk b0 0 none).add 1) fun c1=>∃ x6 x7:ByteArray,(Value.agg #[c0,c1])=.agg #[.string x6,.string x7]∧Al h6 (.cells #[.string x6,.string x7] 50) fun b1 h_12=>
       bi prog (append_ #[41,41] 41 #[.slice oa xs.length oc,.slice (some (Addr.mk b1 0 none)) 1 1]) h_12 K:=by
      intro h6 x y K H6 hK;refine ⟨.string x,by rw [bD H6.get]; rfl,.string y,bQ (i:=1) H6 rfl,x,y,rfl,?_⟩;refine aQ H6 fun b1 h7 H7=>?_;refine iW zI ox oT (H7.mv 2) (n:=1) (ys:=pairC (x,y)) (bV (lm H7 rfl) rfl) (by intro u hu; simp [pairC] at hu; rcases hu with rfl | rfl <;> rfl) (by omega) fun a' c' h8 _ H8=>?_;refine hK a' c' h8 ?_;rw [flatMap_append,am];have e:([(x,y)]:Ks).flatMap pairC=pairC (x,y):=by simp
      rw [e];exact H8.ordT 3 [0]
     have H5':aD (pt b0 (.cells #[.string .empty,.string .empty] 50 (0,0))::aL 50 2 oa xs.length oc (xs.flatMap pairC)::F) h5:=H5;refine (tx hs hsm).mono ?_;rintro v h6 ⟨rfl,rfl⟩;rw [← hrd]
     cases hw1:fh r with
     | none=>
       refine ⟨.empty,-1,rfl,?_⟩;refine dO H5' (by decide) (bP 2 0 (by decide)) fun h7 H7=>?_;refine (DZ (s:=s)).mono ?_;rintro v h8 ⟨rfl,rfl⟩;refine ⟨.empty,-1,rfl,?_⟩;refine dO (i:=1) H7 (by simp) (bP 2 1 (by decide)) fun h9 H9=>?_;refine push (x:=.empty) (y:=.empty) H9 fun a' c' h10 H10=>?_;rw [aF];refine go _ _ ⟨i+1,xs++[(.empty,.empty)],rfl,by simp,by rw [am]; simp [hxi],by omega,H10,.inl ⟨rfl,?_⟩⟩ (by dsimp only; rw [al rfl,ak (by omega)]; omega);rw [hun,hni];unfold bK fR;rw [hw1]
       rfl
     | some q1=>
       obtain ⟨w1,r1⟩:=q1;obtain ⟨d1,d2⟩:=nq hw1;have hr1:r1=(sb s).drop (s.size - r1.length):=by
        rw [hrd,drop_drop,length_drop,hsl] at d1
        conv=>lhs; rw [d1]
        congr 1;omega
       refine ⟨cn w1,((s.size - r1.length:Nat):Int),rfl,?_⟩;refine dO H5' (by decide) (bP 2 0 (by decide)) fun h7 H7=>?_;refine (tx (p:=s.size - r1.length) hs (by omega)).mono ?_;rintro v h8 ⟨rfl,rfl⟩;rw [← hr1]
       cases hw2:fh r1 with
       | none=>
         refine ⟨.empty,-1,rfl,?_⟩;refine dO (i:=1) H7 (by simp) (bP 2 1 (by decide)) fun h9 H9=>?_;refine push (x:=cn w1) (y:=.empty) H9 fun a' c' h10 H10=>?_;rw [aF];refine go _ _ ⟨i+1,xs++[(cn w1,.empty)],rfl,by simp,by rw [am]; simp [hxi],by omega,H10,.inl ⟨rfl,?_⟩⟩ (by dsimp only; rw [al rfl,ak (by omega)]; omega);rw [hun,hni];unfold bK fR;rw [hw1];simp only [];rw [hw2]
         rfl
       | some q2=>
         obtain ⟨w2,r2⟩:=q2;obtain ⟨d3,d4⟩:=nq hw2;have hr2:r2=(sb s).drop (s.size - r2.length):=by
          rw [hr1,drop_drop,length_drop,hsl] at d3
          conv=>lhs; rw [d3]
          congr 1;omega
         refine ⟨cn w2,((s.size - r2.length:Nat):Int),rfl,?_⟩;refine dO (i:=1) H7 (by simp) (bP 2 1 (by decide)) fun h9 H9=>?_;refine push (x:=cn w1) (y:=cn w2) H9 fun a' c' h10 H10=>?_;rw [aF];refine go _ _ ⟨i+1,xs++[(cn w1,cn w2)],rfl,by simp,by rw [am]; simp [hxi],by omega,H10,.inr ⟨r2,rfl,by omega,hr2,by omega,?_⟩⟩ (by dsimp only; rw [ak (by omega),ak (by omega),Int.toNat_natCast,Int.toNat_natCast]; omega);rw [hun,hni]
         conv=>lhs; unfold bK
         unfold fR;rw [hw1];simp only [];rw [hw2];simp only []
         cases bK (n - (i+1)) r2 with
         | none=>rfl
         | some q=>
           obtain ⟨qs,t⟩:=q;show some (xs++(cn w1,cn w2)::qs,t)=some (xs++[(cn w1,cn w2)]++qs,t);rw [append_assoc]
           rfl
   · have hi0:n - i=0:=by omega
     rw [ae (show ¬ (i:Int)<(n:Int) by omega),aa];rw [hi0] at hun;have hun2:bK n l0=some (xs,r):=by
      rw [hun];show some (xs++[],r)=_;rw [append_nil]
     by_cases hr0:r=[]
     · subst hr0;simp only [length_nil,Nat.sub_zero];rw [bne_self_eq_false,aa];have hall:co (sb s)=if s.size≤16777216 then some xs else none:=by
        unfold co;rw [hu];simp only [];rw [hl0,hun2];simp only [];rw [hsl]
       by_cases hbig:16777216<s.size
       · rw [af (show (s.size:Int)>16777216 by omega),ab];rw [ak (by omega)] at hall;exact .inr ⟨hall,rfl,H2.drop⟩
       · rw [ae (show ¬ (s.size:Int)>16777216 by omega),aa];rw [al (by omega)] at hall;exact .inl ⟨xs,oa,oc,hall,rfl,H2⟩
     · have h1:0<r.length:=List.length_pos_iff.2 hr0;exact fail (a:=none) (l:=0) (c:=0) (by omega) (hsome hun2 hr0) H2.drop
theorem E1 {b:Nat} {x:Nat} (hx:x<256) (H:aD (pt b (.cells #[.int .u8 (x:Int)] 5 (0,0))::F) h):dW h (some (Addr.mk b 0 none)) 1 (cn [x]):=by
 have H2:aD (aL 5 1 (some ⟨b,0,none⟩) 1 1 ([x].map nv)::F) h:=eW H (bP _) (av _) (by unfold maxLen; decide) rfl rfl
 exact fq (aI H2) rfl (by intro n hn; simp at hn; omega)
set_option maxRecDepth 20000 in
theorem tJ:∀ (n:Nat) {F:List aG} {h:Heap},n<18446744073709551616→aD F h→aC prog 133 [.int .u64 (n:Int)] h fun v h'=>v=.string (cn (fi n))∧aD F h':=by
 intro n
 induction n using Nat.strongRecOn with
 | ind n ih=>
   intro F h hn H;apply GQ.ap;unfold Mq;by_cases hs:n<128
   · rw [af (show (n:Int)<128 by omega),ab,d9];refine aQ H fun b0 h1 H1=>?_;refine ⟨cn [n%256],E1 (Nat.mod_lt _ (by decide)) H1,?_,H1.drop⟩;rw [eQ hs,Nat.mod_eq_of_lt (by omega)]
   · have e1:Int.tmod (n:Int) 128=((n%128:Nat):Int):=jb n 128;have e2:Int.tdiv (n:Int) 128=((n / 128:Nat):Int):=jU n 128;have hlt:n / 128<n:=Nat.div_lt_self (by omega) (by decide);have hdm:n%128<128:=Nat.mod_lt _ (by decide);have e3:wrap .u64 (((n%128:Nat):Int)+128)=((n%128+128:Nat):Int):=by rw [IntWalk.u64_in _ (by omega)]; omega
     have e4:wrap .u8 ((n%128+128:Nat):Int)=((n%128+128:Nat):Int):=by rw [d9,Nat.mod_eq_of_lt (by omega)]
     have e5:wrap .u64 ((n / 128:Nat):Int)=((n / 128:Nat):Int):=IntWalk.u64_in _ (by omega);have hcat:cn [n%128+128]++cn (fi (n / 128))=cn (fi n):=by
      refine gL ?_;rw [iZ,bR (by intro x hx; simp at hx; omega),bR (iT _),bR (iT _),nK hs]
      rfl
     have hnl:(fi (n / 128)).length≤10:=dk 9 _ (Nat.lt_of_lt_of_le (show n / 128<18446744073709551616 by omega) (by decide));have hz:(cn [n%128+128]).size+(cn (fi (n / 128))).size≤9223372036854775807:=by
      rw [← aW,← aW,bR (by intro x hx; simp at hx; omega),bR (iT _)];simp only [ao,length_nil];omega
     rw [ae (show ¬ (n:Int)<128 by omega),aa,e1,e2,e3,e4,e5];refine ⟨by decide,by decide,?_,?_⟩
     · refine aQ H fun b1 h1 H1=>?_;refine ⟨rfl,⟨by decide,rfl⟩,cn [n%128+128],E1 (by omega) H1,?_⟩;refine (ih _ hlt (by omega) H1).mono ?_;rintro v h2 ⟨rfl,H2⟩;rw [aR];refine ⟨rfl,⟨by decide,rfl⟩,rfl,rfl,⟨cn [n%128+128],E1 (by omega) H2,rfl⟩,hz,?_,H2.drop⟩;rw [hcat]
     · refine (ih _ hlt (by omega) H).mono ?_;rintro v h2 ⟨rfl,H2⟩;rw [aR];refine ⟨rfl,⟨by decide,rfl⟩,rfl,rfl,?_⟩;refine aQ H2 fun b2 h3 H3=>?_;refine ⟨rfl,⟨by decide,rfl⟩,cn [n%128+128],E1 (by omega) H3,hz,?_,H3.drop⟩;rw [hcat]
theorem tI {s:ByteArray} (hs:s.size≤1099511627776) (H:aD F h):aC prog 134 [.string s] h fun v h'=>v=.string (cn (cT (sb s)))∧aD F h':=by
 have hsl:=aW s
 apply GP.ap
 unfold Mp
 rw [IntWalk.u64_in (s.size:Int) (by omega)]
 refine (tJ s.size (by omega) H).mono ?_
 rintro v h1 ⟨rfl,H1⟩
 rw [aR]
 have hnl:(fi s.size).length≤6:=dk 5 _ (by omega)
 have e:sb (cn (fi s.size))=fi s.size:=bR (iT _)
 refine ⟨by rw [← aW,e]; omega,?_,H1⟩
 have e2:cn (fi s.size)++s=cn (cT (sb s)):=by
  refine gL ?_;rw [iZ,e,bR]
  · unfold cT;rw [hsl]
  · intro x hx;unfold cT at hx
    rcases List.mem_append.1 hx with hx | hx
    · exact iT _ x hx
    · exact fx s x hx
 rw [e2]
def xJ (ps:Ks):Value:=if 16777216<(bj ps).length then .tuple #[.string .empty,.int .i64 42] else .tuple #[.string (cn (bj ps)),.int .i64 0]
theorem nl (s:ByteArray):B8 (cT (sb s)):=p9 (fx s)
theorem EW (n:Nat) (ps:Ks):B8 (gg n ps):=fun x hx=>by
 unfold gg at hx
 rcases List.mem_append.1 hx with hx | hx
 · exact iT _ x hx
 · obtain ⟨p,_,hx⟩:=List.mem_flatMap.1 hx;unfold fO at hx
   rcases List.mem_append.1 hx with hx | hx
   · exact nl _ x hx
   · exact nl _ x hx
set_option maxHeartbeats 1000000 in
theorem Dj {la:Option Addr} {ll lc:Nat} {ps:Ks} (hr:∀ h',aD F h'→dw h' la (ps.flatMap pairC)) (hl:ps.length=ll) (hll:ll<100000000000) (hp:∀ p∈ps,p.1.size≤1000000000∧p.2.size≤1000000000) (hsz:(bj ps).length≤1099511627776) (H:aD F h) :
  aC prog 68 [.slice la ll lc] h fun v h'=>v=xJ ps∧aD F h':=by
 apply Jd.ap
 unfold N0
 rw [IntWalk.u64_in (ll:Int) (by omega)]
 refine (tJ ll (by omega) H).mono ?_
 rintro v h1 ⟨rfl,H1⟩
 rw [aR]
 have hnl:(fi ll).length≤7:=dk 6 _ (by omega)
 have en:sb (cn (fi ll))=fi ll:=bR (iT _)
 have ez:(cn (fi ll)).size=(fi ll).length:=by rw [← aW,en]
 refine n9 (by kernel_rfl) EL (by kernel_rfl) (by rw [ez]; unfold maxLen; omega) H1 fun xb xc h2 H2=>?_
 rw [aF]
 rw [en,ez] at H2
 rw [ez]
 subst hl
 rw [← jf] at hsz
 refine aU.upto ps.length (fun i (s:Sl×Int) h2=>s.2=(i:Int)∧i≤ps.length∧s.1.l=(gg ps.length (ps.take i)).length∧aD (aL 5 1 s.1.a s.1.l s.1.c ((gg ps.length (ps.take i)).map nv)::F) h2) (fun s=>ps.length - s.2.toNat) (fun i s h2 hh=>⟨hh.2.1,by rw [hh.1]; omega⟩)
  ⟨rfl,au _,by simp [gg],by simpa [gg] using H2⟩ ?_ ?_
 · rintro i ⟨⟨sa,sl,sc⟩,s2⟩ h2 again hi ⟨rfl,_,rfl,H2⟩ go;simp only at H2 ⊢;rw [af (show ((i:Int)<(ps.length:Int)) by omega),ab];obtain ⟨⟨k,x⟩,hx⟩:∃ x,ps[i]? = some x:=⟨_,ah (by omega)⟩
   have hkx:k.size≤1000000000∧x.size≤1000000000:=hp _ (ai hx);have hpre:gg ps.length (ps.take (i+1))=gg ps.length (ps.take i)++cT (sb k)++cT (sb x):=by
    rw [ax,hx];unfold gg;rw [flatMap_append,← append_assoc,append_assoc _ (cT _)];simp [fO]
   have hle:=ug ps.length ps (i+1);rw [hpre,am,am] at hle;have sz:∀ s:ByteArray,(cn (cT (sb s))).size=(cT (sb s)).length:=fun s=>by rw [← aW,bR (nl s)]
   have sw:∀ s:ByteArray,sb (cn (cT (sb s)))=cT (sb s):=fun s=>bR (nl s);refine ce (f:=pairC) (sz:=2) (x:=(k,x)) bX (by decide) (hr _ H2.drop) rfl hx fun b hb hc=>?_;refine ⟨.string k,hc 0 _ rfl,k,rfl,?_⟩;refine (tI (s:=k) (by omega) H2).mono ?_;rintro v h3 ⟨rfl,H3⟩;rw [aR];refine oX EL (by kernel_rfl) pF H3 (Im _) (by rw [sz]; omega) fun a' c' h4 _ H4=>?_;rw [aF];refine ce (f:=pairC) (sz:=2) (x:=(k,x)) bX (by decide) (hr _ H4.drop) rfl hx fun b2 hb2 hc2=>?_;refine ⟨.string x,hc2 1 _ rfl,x,rfl,?_⟩;refine (tI (s:=x) (by omega) H4).mono ?_;rintro v h5 ⟨rfl,H5⟩;rw [aR];refine oX EL (by kernel_rfl) pF H5 (Im _) (by rw [sz,sz]; omega) fun a2 c2 h6 _ H6=>?_;rw [aF,aH (by omega)];rw [sw,sw,sz,sz] at H6;refine go _ _ ⟨rfl,by omega,?_,?_⟩
   · rw [hpre,am,am,sz,sz]
   · rw [hpre];dsimp only;rw [sz,sz];exact H6
 · rintro ⟨⟨sa,sl,sc⟩,s2⟩ h2 again ⟨rfl,_,rfl,H2⟩;simp only at H2 ⊢;rw [ae (by omega),aa];rw [ar (by omega),jf] at H2 ⊢;unfold xJ;by_cases hb:16777216<(bj ps).length
   · rw [af (show (((bj ps).length:Int)>16777216) by omega),ab,al hb];exact ⟨rfl,H2.drop⟩
   · rw [ae (show ¬ (((bj ps).length:Int)>16777216) by omega),aa,ak hb];refine ⟨cn (bj ps),fq (aI H2) rfl (by rw [← jf]; exact EW _ _),rfl,H2.drop⟩
end
end Go.Proofs.YtibdiikcigokjaaGreat
