/- The rounds of StatePlays (seat S). -/
import Derived.Test.YtibdiikcigokjaaGreatPyPqX
import Derived.Test.YtibdiikcigokjaaGreatPyPrX
import Derived.Test.YtibdiikcigokjaaGreatPyTw
import Derived.Test.YtibdiikcigokjaaGreatPyPoX
import Derived.SizedLaws
namespace Go.Proofs.YtibdiikcigokjaaGreat
open Go.IntKind (wrap)
open Go.Proofs.Tryz (prog)
open List (length_drop getElem?_map drop_zero pairwise_singleton filter_sublist drop_eq_getElem_cons take_length mem_cons_self getElem?_cons_zero drop_succ_cons getElem?_cons_succ)
open Go Go.RowKit Go.MapKept
set_option linter.unusedVariables false
set_option linter.unusedSimpArgs false
open AF (cI kZ ln fY dF Gr)
open TS (Ch gk Diffs dL VT dG cD EU mrg)
open Hex (cE dp)
section
variable {F:List aG} {h:Heap} {a:Option Addr} {l c:Nat}
theorem DJ {p:Option Addr} {l:Tb.T VT} (hl:List.length l<100000000000) (H:aD (cD p l::F) h):aC prog 22 [.pointer p] h fun v h'=>∃ a c,v=.slice a (List.length l) c∧aD (aL 50 2 a (List.length l) c (l.flatMap pairC)::cD p l::F) h':=by
 apply JL.ap
 unfold OB
 refine aQ H fun b0 h1 H1=>?_
 have H1':aD (vJ b0 []::cD p l::F) h1:=oF (a:=none) (c:=0) ((bG 50 2 H1).ordT 2 [1,0])
 refine (TS.F46_Z (by omega) (H1'.mv 1)).mono ?_
 rintro v h2 ⟨q,c0,c1,rfl,H2⟩
 refine ⟨_,rfl,?_⟩
 refine TS.range_tab (fun i=>vJ b0 (l.take i)::cD p l::F) (fun _=>[mC False]) (H2.ordT 3 [0,2,1]) ?_ ?_ (fun j h3 H3=>(cC.1 (H3.mv 1)).1.elim)
 · intro i p L rec h3 Q hp HR go _;refine ⟨p.1,p.2,rfl,HR.get,?_⟩;have HB:=HR.set (rec .busy none);have hil:=(aj.1 hp).1;refine vI (by rw [aq]; omega) (HB.mv 3) fun h4 H4=>go h4 ?_;have e:l.take (i+1)=l.take i++[(p.1,p.2)]:=by rw [ax,hp]; rfl
   rw [e];exact H4.ordT 4 [1,2,3,0]
 · intro h3 H3;refine ⟨rfl,?_⟩;rw [take_length] at H3;obtain ⟨a,c,H4⟩:=oG (H3.mv 2);refine Kr H4.get ⟨(H4.mv 2).get,?_⟩;have H5:=(H4.mv 2).set (.deferred none);exact ⟨a,c,rfl,H5.ordT 5 [2,4]⟩
theorem uO {b:Option Addr} {m e:Nat} {xs ys:gX} (hx:dw h a (xs.flatMap pairC)) (hl:xs.length=l) (hy:dw h b (ys.flatMap pairC)) (hm:ys.length=m) (hll:l<100000000000) (hxy0:xs=ys) :
  aC prog 21 [.slice a l c,.slice b m e] h fun v h'=>h'=h∧v=.bool true:=by
 subst hxy0
 apply JM.ap
 unfold OC
 have hlm:l=m:=by omega
 subst hlm
 rw [show ((l:Int)!=(l:Int))=false from by simp,aa]
 refine aU.upto l (fun i (s:Int) h'=>s=(i:Int)∧i≤l∧h'=h) (fun s=>l - s.toNat) (fun i s h' hh=>⟨hh.2.1,by rw [hh.1]; omega⟩) ⟨rfl,au _,rfl⟩ ?_ ?_
 · rintro i s h2 again hi ⟨rfl,_,rfl⟩ go;rw [af (show ((i:Int)<(l:Int)) by omega),ab];obtain ⟨⟨k1,x1⟩,h1⟩:∃ x,xs[i]? = some x:=⟨_,ah (by omega)⟩
   refine ce (f:=pairC) (sz:=2) bX (by decide) hx hl h1 fun b1 hb1 hc1=>?_;refine ⟨.string k1,hc1 0 _ rfl,.string x1,hc1 1 _ rfl,k1,x1,rfl,?_⟩;refine ce (f:=pairC) (sz:=2) bX (by decide) hy hl h1 fun b2 hb2 hc2=>?_;refine ⟨.string k1,hc2 0 _ rfl,.string x1,hc2 1 _ rfl,k1,x1,rfl,?_⟩;rw [EX (k1,x1) (k1,x1),af rfl,az,aa,aH (by omega)];exact go _ _ ⟨rfl,by omega,by trivial⟩
 · rintro s h2 again ⟨rfl,_,rfl⟩;rw [ae (by omega),aa];exact ⟨rfl,rfl⟩
end
structure lj where
 k:Int
 v:Int
 was:Fv
 now:Fv
 fs:lX
abbrev lj.arr (y:lj):Array Value:=#[.int .i64 y.k,.int .i64 y.v,.slice y.was.a y.was.l y.was.c,.slice y.now.a y.now.l y.now.c,.int .i64 y.fs.k,.string y.fs.dir,.string y.fs.name,.string y.fs.b,.int .i64 y.fs.n,.int .u8 y.fs.turn,.slice y.fs.pa y.fs.pl y.fs.pc]
structure oZ (h:Heap) (y:lj):Prop where
 k : -9223372036854775808≤y.k∧y.k≤9223372036854775807
 v : -9223372036854775808≤y.v∧y.v≤9223372036854775807
 was:HO h y.was
 now:HO h y.now
 fs:ot h y.fs
def sS:ByteArray:=⟨#[115]⟩
def SI (f m:Nat) (s t:Option Addr) (brk:Bool) (A:AF.FS) (n:Nat) (G:List aG) (hh:Heap):Prop:=
 (brk=true∧aD (cg f A::bg m A::G) hh)∨
 (brk=false∧∃ b r S,s=some ⟨b,0,none⟩∧t=some ⟨r,0,none⟩∧mH S∧S.dir=sS∧S.D.length≤n∧S.N.length≤n∧aD (dg b f S::be r m S::cg f A::bg m A::G) hh)
section
variable {f m b0 n i:Nat} {A:AF.FS} {y:lj} {G:List aG} {hh hh0:Heap} {s t:Option Addr} {again:Option Addr×Option Addr×Bool×Int→Heap→Prop}
abbrev wJ (f m:Nat) (A:AF.FS) (n i:Nat) (G:List aG) (again:Option Addr×Option Addr×Bool×Int→Heap→Prop):Prop:=
 ∀ s' t' brk' A' h',A'.WF→Gr 20000 A A'→SI f m s' t' brk' A' (n+1) G h'→again (s',t',brk',((i+1:Nat):Int)) h'
theorem d8 {F:List aG} {h:Heap} {b i:Nat} {c:Array Value} {e:TypeId} {fr:Nat×Nat} {k:IntKind} {x:Int} {K:Int→Prop} (H:aD (pt b (.cells c e fr)::F) h) (hv:c[i]? = some (.int k x)) (hK:K x):Ld h ((Addr.mk b 0 none).add i) fun v=>DI k v K:=
 eU H hv (by show DI k (.int k x) K; rw [aK]; exact hK)
theorem CW {b r:Nat} {S:eT} (hD:S.D.length<100000000) (hN:S.N.length<100000000) (hi:i<1000000) (H:aD (dg b f S::be r m S::cg f A::bg m A::G) hh) {Q:Value→Heap→Prop} {brk:Bool}
  (go:∀ h',aD (dg b f S::be r m S::cg f A::bg m A::G) h'→again (some ⟨b,0,none⟩,some ⟨r,0,none⟩,brk,((i+1:Nat):Int)) h'):xu (some ⟨b,0,none⟩) (some ⟨r,0,none⟩) brk (i:Int) hh again Q:=by
 unfold xu
 obtain ⟨a1,c1,a2,c2,H1⟩:=dS (H.mv 1)
 rw [aY]
 refine bJ H1 rfl ?_
 rw [aY]
 refine bJ H1 rfl ?_
 refine (xn (S:=S) (H1.mv 3) (by omega)).mono ?_
 rintro v h1 ⟨rfl,H2⟩
 rw [aK]
 have H3:=H2.mv 1
 have ew:wrap .i64 ((S.D.length:Int)+(S.N.length:Int))=((S.D.length+S.N.length:Nat):Int):=by rw [IntWalk.i64_in _ (by omega)]; omega
 rw [ew]
 refine ⟨rfl,rfl,rfl,bJ H3 rfl rfl,rfl,rfl,rfl,rfl,bJ H3 rfl rfl,rfl,rfl,?_⟩
 rw [bne_self_eq_false,aa,aH (by omega)]
 exact go h1 ((cU (H3.ordT 4 [0,2,3,1])).ordT 2 [1,0])
theorem rP {e:Int} {Q:Value→Heap→Prop} (W:A.WF) (hi:i<1000000) (H:aD (cg f A::bg m A::G) hh) (go:∀ h',aD (cg f A::bg m A::G) h'→again (s,t,true,((i+1:Nat):Int)) h') :
  AN (some ⟨f,0,none⟩) (some ⟨m,0,none⟩) b0 s t true (i:Int) e hh again Q:=by
 unfold AN
 refine (lW W H).mono ?_
 rintro v h1 ⟨rfl,H1⟩
 rw [bE,az,aa,ab,aH (by omega)]
 exact ⟨rfl,rfl,rfl,rfl,rfl,rfl,rfl,rfl,rfl,rfl,rfl,go h1 H1⟩
theorem rQ {e:Nat} {Q:Value→Heap→Prop} (W:A.WF) (hi:i<1000000) (hk:0≤y.k∧y.k<4) (he:e≠0∧e≠2∧e≠180∧e≠181) (H:aD (cg f A::bg m A::pt b0 (.cells y.arr 66 (0,0))::G) hh)
  (go:∀ h',aD (cg f A::bg m A::pt b0 (.cells y.arr 66 (0,0))::G) h'→again (s,t,true,((i+1:Nat):Int)) h') :
  AN (some ⟨f,0,none⟩) (some ⟨m,0,none⟩) b0 s t false (i:Int) (e:Int) hh again Q:=by
 unfold AN
 refine (lW W H).mono ?_
 rintro v h1 ⟨rfl,H1⟩
 obtain ⟨e1,e2,e3,e4⟩:=he
 have bne:∀ k:Nat,e≠k→((e:Int)!=(k:Int))=true:=fun k hk=>by rw [bne_iff_ne]; omega
 rw [bE,az,aa,aa,aH (by omega)]
 refine d8 (H1.mv 2) rfl ?_
 rw [af (show y.k≥0 from hk.1),ab]
 refine d8 (H1.mv 2) rfl ?_
 rw [af hk.2,ab,show ((e:Int)!=0)=true from bne 0 e1,ab,show ((e:Int)!=2)=true from bne 2 e2,ab,show ((e:Int)!=180)=true from bne 180 e3,ab,show ((e:Int)!=181)=true from bne 181 e4,az,aa]
 exact ⟨rfl,rfl,rfl,rfl,rfl,rfl,rfl,rfl,rfl,rfl,rfl,go h1 H1⟩
theorem iY {e b r:Nat} {S:eT} {Q:Value→Heap→Prop} (W:A.WF) (hi:i<1000000) (O:mH S) (hd:S.dir=sS) (hD:S.D.length≤n) (hN:S.N.length≤n) (hn:n≤10000) (H:aD (dg b f S::be r m S::cg f A::bg m A::pt b0 (.cells y.arr 66 (0,0))::G) hh)
  (go:∀ brk' h',SI f m (some ⟨b,0,none⟩) (some ⟨r,0,none⟩) brk' A n (pt b0 (.cells y.arr 66 (0,0))::G) h'→again (some ⟨b,0,none⟩,some ⟨r,0,none⟩,brk',((i+1:Nat):Int)) h') :
  AN (some ⟨f,0,none⟩) (some ⟨m,0,none⟩) b0 (some ⟨b,0,none⟩) (some ⟨r,0,none⟩) false (i:Int) (e:Int) hh again Q:=by
 by_cases hh4:(0≤y.k∧y.k<4)∧(e≠0∧e≠2∧e≠180∧e≠181)
 · exact rQ (y:=y) (G:=G) W hi hh4.1 hh4.2 (H.ordT 5 [2,3,4]) fun h' H'=>go true h' (.inl ⟨rfl,H'⟩)
 unfold AN
 refine (lW W (H.ordT 4 [2,3,0,1])).mono ?_
 rintro v h1 ⟨rfl,H1⟩
 have H2:aD (dg b f S::be r m S::cg f A::bg m A::pt b0 (.cells y.arr 66 (0,0))::G) h1:=H1.ordT 4 [2,3,0,1]
 have chk:∀ {brk:Bool},brk=false→xu (some ⟨b,0,none⟩) (some ⟨r,0,none⟩) brk (i:Int) h1 again Q:=by
  rintro brk rfl;exact CW (by omega) (by omega) hi H2 fun h' H'=>go false h' (.inr ⟨rfl,b,r,S,rfl,rfl,O,hd,hD,hN,H'⟩)
 rw [bE,az,aa,aa]
 refine d8 (H2.mv 4) rfl ?_
 by_cases hk0:0≤y.k
 rotate_left
 · rw [ae (show ¬ y.k≥0 from hk0),aa];exact chk rfl
 rw [af (show y.k≥0 from hk0),ab]
 refine d8 (H2.mv 4) rfl ?_
 by_cases hk4:y.k<4
 rotate_left
 · rw [ae hk4,aa];exact chk rfl
 rw [af hk4,ab]
 have bne:∀ k:Nat,e≠k→((e:Int)!=(k:Int))=true:=fun k hk=>by rw [bne_iff_ne]; omega
 by_cases e0:e=0
 · rw [e0,show (((0:Nat):Int)!=0)=false from rfl,aa];exact chk rfl
 rw [show ((e:Int)!=0)=true from bne 0 e0,ab]
 by_cases e2:e=2
 · rw [e2,show (((2:Nat):Int)!=2)=false from rfl,aa];exact chk rfl
 rw [show ((e:Int)!=2)=true from bne 2 e2,ab]
 by_cases e3:e=180
 · rw [e3,show (((180:Nat):Int)!=180)=false from rfl,aa];exact chk rfl
 rw [show ((e:Int)!=180)=true from bne 180 e3,ab]
 by_cases e4:e=181
 · rw [e4,show (((181:Nat):Int)!=181)=false from rfl,aA,ab];exact chk rfl
 · exact absurd ⟨⟨hk0,hk4⟩,e0,e2,e3,e4⟩ hh4
end
namespace AF
theorem jB {α:Type} {dir:ByteArray} {c:Nat} {p:Int→Bool}:∀ (l:List Int) (A:FS) (T:List (Int×α)) (s:Bool),(fY dir c p l A T s).2.1.Sublist T
 | [],A,T,s=>List.Sublist.refl _
 | n::l,A,T,s=>by
   unfold fY;split
   · split
     · exact (jB l _ _ _).trans (filter_sublist ..)
     · exact List.Sublist.refl _
   · exact jB l _ _ _
end AF
theorem mH.sub {S:eT} (O:mH S) {D N:List (Int×Unit)} (hD:D.Sublist S.D) (hN:N.Sublist S.N):mH { S with D:=D,N:=N }:=
 ⟨O.upD.sublist hD,O.upN.sublist hN,fun p hp=>O.okD p (hD.subset hp),fun p hp=>O.okN p (hN.subset hp)⟩
theorem yh {S:eT} {A:AF.FS} {v:Int} (O:mH S):mH (S.drop A v).2.1∧(S.drop A v).2.1.dir=S.dir∧(S.drop A v).2.1.D.length≤S.D.length∧(S.drop A v).2.1.N.length≤S.N.length∧Gr (S.D.length+S.N.length+1) A (S.drop A v).1:=by
 unfold eT.drop
 dsimp only
 generalize dI (S.N.map (·.1)) v=at_
 have h1:=AF.jB (dir:=S.dir) (c:=100) (p:=fun n=>decide (n≤at_)) (S.D.map (·.1)) A S.D false
 have g1:=AF.us (dir:=S.dir) (c:=100) (p:=fun n=>decide (n≤at_)) (S.D.map (·.1)) A S.D false
 generalize fY S.dir 100 (fun n=>decide (n≤at_)) (S.D.map (·.1)) A S.D false=r at h1 g1
 have h2:=AF.jB (dir:=S.dir) (c:=110) (p:=fun n=>decide (n<at_)) (S.N.map (·.1)) r.1 S.N r.2.2.1
 have g2:=AF.us (dir:=S.dir) (c:=110) (p:=fun n=>decide (n<at_)) (S.N.map (·.1)) r.1 S.N r.2.2.1
 generalize fY S.dir 110 (fun n=>decide (n<at_)) (S.N.map (·.1)) r.1 S.N r.2.2.1=q at h2 g2
 rw [an] at g1 g2
 have g3:=AF.kJ q.1 S.dir
 have l1:=h1.length_le
 have l2:=h2.length_le
 split
 · exact ⟨O,rfl,av _,av _,Gr.same _ A⟩
 · split
   · exact ⟨O.sub (N:=S.N) h1 (List.Sublist.refl _),rfl,l1,av _,g1.le (by omega)⟩
   · split
     · exact ⟨O.sub h1 h2,rfl,l1,l2,(g1.trans g2).le (by omega)⟩
     · split
       · exact ⟨O.sub h1 h2,rfl,l1,l2,((g1.trans g2).trans g3).le (by omega)⟩
       · exact ⟨O.sub h1 h2,rfl,l1,l2,(g1.trans g2).le (by omega)⟩
theorem qm {v:Int}:∀ D:List (Int×Unit),(eI v () D).length≤D.length+1
 | []=>by simp [eI]
 | p::D=>by
   have ih:=qm (v:=v) D;unfold eI;split
   · simp
   · split
     · simp
     · simp only [ao];omega
structure mI (S:eT) (A:AF.FS) (q:AF.FS×eT×Nat):Prop where
 ok:mH q.2.1
 dir:q.2.1.dir=S.dir
 d:q.2.1.D.length≤S.D.length+1
 n:q.2.1.N.length≤S.N.length+1
 gr:Gr 6 A q.1
theorem mI.same {S:eT} {A:AF.FS} (O:mH S) (e:Nat):mI S A (A,S,e):=⟨O,rfl,Nat.le_succ _,Nat.le_succ _,Gr.same _ A⟩
theorem sF {S:eT} {A:AF.FS} {c:Nat} {v:Int} {ps:gX} (O:mH S) (W:A.WF) (hv:nh v):mI S A (S.layG A c v ps):=by
 unfold eT.layG
 split
 · exact mI.same O _
 · have T:=AF.Cg S.dir (cI c v) (cn (bj ps)) W;rw [show sb (cn (bj ps))=bj ps from bR (l7 ps)] at T;unfold eT.lay;refine ⟨?_,?_,?_,?_,T.2⟩ <;> dsimp only <;> split
   · exact O.laid hv c
   · exact O
   · exact Ad S c v
   · rfl
   · unfold gP;split
     · exact qm _
     · exact Nat.le_succ _
   · exact Nat.le_succ _
   · unfold gP;split
     · exact Nat.le_succ _
     · exact qm _
   · exact Nat.le_succ _
theorem uD {S:eT} {A:AF.FS} {v:Int} {was now:Tb.T VT} (O:mH S) (W:A.WF):mI S A (eM S A v was now):=by
 unfold eM
 split
 · exact mI.same O _
 · exact sF O W ⟨by omega,by omega⟩
theorem xC {S:eT} {A:AF.FS} {v:Int} (O:mH S) (W:A.WF):mI S A (j0 S A v):=by
 unfold j0
 split
 · exact mI.same O _
 · split
   · exact mI.same O _
   · split
     · exact mI.same O _
     · exact sF O W ⟨by omega,by omega⟩
section
variable {F:List aG} {h:Heap} {b fsb:Nat} {S:eT} {A:AF.FS}
theorem uR {v:Int} {pa pb:Option Addr} {was now:Tb.T VT} (W:A.WF) (hs:A.steps+10<1099511627776) (hd:S.dir.size<4611686018427387904) (ha:was.length<1000000) (hb:now.length<1000000)
  (Ua:Tb.Up was) (Ub:Tb.Up now) (hf:BF (bo (mrg was now))) (H:aD (dg b fsb S::cg fsb A::cD pa was::cD pb now::F) h) :
  aC prog 10 [aJ b,.int .i64 v,.pointer pa,.pointer pb] h fun r h'=>r=.int .i64 (((eM S A v was now).2.2:Nat):Int)∧(eM S A v was now).1.WF∧
   aD (dg b fsb (eM S A v was now).2.1::cg fsb (eM S A v was now).1::cD pa was::cD pb now::F) h':=by
 unfold eM
 by_cases hv:v<1∨1099511627776<v
 · rw [al hv];refine (Hh hv).mono ?_;rintro r h1 ⟨rfl,rfl⟩;exact ⟨rfl,W,H⟩
 rw [ak hv]
 have D0:Diffs was now (mrg was now):=TS.mrg_diffs _ (av _) Ua Ub
 refine (Eu (v:=v) ⟨by omega,by omega⟩ W hs hd ha hb (fun d hd=>by rw [TS.Diffs.uniq hd D0]; exact hf) H).mono ?_
 rintro r h1 ⟨d,hd2,rfl,W1,_,H1⟩
 rw [TS.Diffs.uniq hd2 D0] at H1 W1 ⊢
 have e:S.layG A 100 v (bo (mrg was now))=S.lay A 100 v (bo (mrg was now)):=ak (by have:=hf.1; omega)
 rw [e]
 exact ⟨rfl,W1,H1⟩
end
open AF (cI dF)
open TS (Ch gk dL VT dG cD mrg)
namespace Ex
def kA:ByteArray:=⟨#[97]⟩
def kB:ByteArray:=⟨#[98]⟩
def kX:ByteArray:=⟨#[120]⟩
def kY:ByteArray:=⟨#[121]⟩
def ta:Tb.T VT:=[(kA,kX)]
def tb:Tb.T VT:=[(kB,kY)]
def n1:List Nat:=[1,2,43,97,1,120]
def n2:List Nat:=[2,2,45,97,0,2,43,98,1,121]
def n3:List Nat:=[1,1,98,1,121]
def d1:List Ch:=[(kA,kX,false)]
def d2:List Ch:=[(kA,.empty,true),(kB,kY,false)]
def A0:AF.FS:=⟨10000,0,none,false,[],[]⟩
def A1:AF.FS:=(A0.prep sS).1
def A2:AF.FS:=(A1.put sS (cI 100 1) n1).1
def A3:AF.FS:=(A2.put sS (cI 100 2) n2).1
def A4:AF.FS:=(A3.put sS (cI 110 2) n3).1
def S0:eT:=⟨sS,[],[]⟩
def S1:eT:=⟨sS,[(1,())],[]⟩
def S2:eT:=⟨sS,[(1,()),(2,())],[]⟩
def S3:eT:=⟨sS,[(1,()),(2,())],[(2,())]⟩
def S4:eT:=⟨sS,[],[(2,())]⟩
def A5:AF.FS:=(S3.drop A4 2).1
theorem Hu:(A0.prep sS).2=.ok []:=by kernel_rfl
theorem Na:(A1.put sS (cI 100 1) n1).2=0:=by kernel_rfl
theorem M9:(A2.put sS (cI 100 2) n2).2=0:=by kernel_rfl
theorem M8:(A3.put sS (cI 110 2) n3).2=0:=by kernel_rfl
theorem Lc:(S3.drop A4 2).2=(S4,0):=by kernel_rfl
theorem Nm:A3.get sS (cI 100 1)=.ok n1:=by kernel_rfl
theorem Nl:A3.get sS (cI 100 2)=.ok n2:=by kernel_rfl
theorem Nk:A5.get sS (cI 110 2)=.ok n3:=by kernel_rfl
theorem OT:co n1=some (bo d1):=by kernel_rfl
theorem OS:co n2=some (bo d2):=by kernel_rfl
theorem OR:co n3=some tb:=by kernel_rfl
theorem O6:dv (bo d1)=some d1:=by kernel_rfl
theorem O5:dv (bo d2)=some d2:=by kernel_rfl
theorem wd (s:List Nat) (h:s.length<128):cT s=s.length::s:=by unfold cT; rw [eQ h]; rfl
theorem NH:bj (bo d1)=n1:=by
 show fi 1++[([43,97],[120])].flatMap fO=n1
 rw [eQ (by decide)]
 show [1]++(cT [43,97]++cT [120]++[])=n1
 rw [wd _ (by decide),wd _ (by decide)]
 rfl
theorem NG:bj (bo d2)=n2:=by
 show fi 2++[([45,97],[]),([43,98],[121])].flatMap fO=n2
 rw [eQ (by decide)]
 show [2]++(cT [45,97]++cT []++(cT [43,98]++cT [121]++[]))=n2
 rw [wd _ (by decide),wd _ (by decide),wd _ (by decide),wd _ (by decide)]
 rfl
theorem OZ:bj tb=n3:=by
 show fi 1++[([98],[121])].flatMap fO=n3
 rw [eQ (by decide)]
 show [1]++(cT [98]++cT [121]++[])=n3
 rw [wd _ (by decide),wd _ (by decide)]
 rfl
theorem MU (k x:ByteArray):Tb.Up (V:=VT) [(k,x)]:=pairwise_singleton _ _
theorem KM:mrg [] ta=d1:=by
 unfold ta TS.mrg TS.mrg
 rfl
theorem KL:mrg ta tb=d2:=by
 unfold ta tb TS.mrg
 rw [al (show dF kA kB=true by decide)]
 unfold TS.mrg TS.mrg
 rfl
theorem O0:mH S0:=⟨List.Pairwise.nil,List.Pairwise.nil,by simp [S0],by simp [S0]⟩
theorem v1:nh 1:=⟨by decide,by decide⟩
theorem v2:nh 2:=⟨by decide,by decide⟩
theorem Nd:eM S0 A1 1 [] ta=(A2,S1,0):=by
 unfold eM
 rw [ak (by decide),KM]
 unfold eT.layG eT.lay
 rw [NH,ak (by decide)]
 show ((A1.put sS (cI 100 1) n1).1,if (A1.put sS (cI 100 1) n1).2=0 then gP S0 100 1 else S0,(A1.put sS (cI 100 1) n1).2)=_
 rw [Na,al rfl]
 rfl
theorem Nc:eM S1 A2 2 ta tb=(A3,S2,0):=by
 unfold eM
 rw [ak (by decide),KL]
 unfold eT.layG eT.lay
 rw [NG,ak (by decide)]
 show ((A2.put sS (cI 100 2) n2).1,if (A2.put sS (cI 100 2) n2).2=0 then gP S1 100 2 else S1,(A2.put sS (cI 100 2) n2).2)=_
 rw [M9,al rfl]
 rfl
theorem KP:iM S2 A3 2=.ok tb:=by
 unfold iM
 rw [ak (by decide)]
 have e:dI (S2.N.map (·.1)) 2=0:=rfl
 have h:AH S2.D 0 2:=fun k h1 h2=>by
  have:k=1∨k=2:=by omega
  rcases this with rfl | rfl
  · exact mem_cons_self ..
  · exact aB _ (mem_cons_self ..)
 rw [e,ak (not_not_intro h)]
 have b:gH S2 A3 0=.ok []:=al rfl
 rw [b]
 show iF S2 A3 2 0 []=_
 rw [fS]
 have e1:eR S2 A3 (0+1) []=.ok ta:=by
  unfold eR gA;rw [show S2.dir=sS from rfl,show (0+1:Int)=1 from rfl,Nm];simp only [];rw [OT];simp only [];rw [O6]
  rfl
 rw [e1]
 simp only []
 rw [fS]
 have e2:eR S2 A3 (0+1+1) ta=.ok tb:=by
  unfold eR gA;rw [show S2.dir=sS from rfl,show (0+1+1:Int)=2 from rfl,Nl];simp only [];rw [OS];simp only [];rw [O5];have:dL ta d2=tb:=by kernel_rfl
  rw [← this]
 rw [e2]
 rfl
theorem Kz:j0 S2 A3 2=(A4,S3,0):=by
 unfold j0
 rw [ak (by decide),ak (by intro h; cases h),KP]
 simp only []
 unfold eT.layG eT.lay
 rw [OZ,ak (by decide)]
 show ((A3.put sS (cI 110 2) n3).1,if (A3.put sS (cI 110 2) n3).2=0 then gP S2 110 2 else S2,(A3.put sS (cI 110 2) n3).2)=_
 rw [M8,al rfl]
 rfl
theorem KN:iM S4 A5 2=.ok tb:=by
 unfold iM
 rw [ak (by decide)]
 have e:dI (S4.N.map (·.1)) 2=2:=rfl
 rw [e,ak (not_not_intro (show AH S4.D 2 2 from fun k h1 h2=>by omega))]
 have b:gH S4 A5 2=.ok tb:=by
  unfold gH gA;rw [ak (by decide),show S4.dir=sS from rfl,Nk];simp only [];rw [OR]
  rfl
 rw [b]
 rfl
theorem KO:iM S4 A5 1=.error 180:=by
 unfold iM
 rw [ak (by decide)]
 have e:dI (S4.N.map (·.1)) 1=0:=rfl
 rw [e,al]
 intro h
 have:=h 1 (by decide) (by decide)
 cases this
theorem M4:A1.steps+100<1099511627776:=of_decide_eq_true (by kernel_rfl)
theorem NF:A2.steps+100<1099511627776:=of_decide_eq_true (by kernel_rfl)
theorem NE:A3.steps+100<1099511627776:=of_decide_eq_true (by kernel_rfl)
theorem OY:A4.steps+100<1099511627776:=of_decide_eq_true (by kernel_rfl)
end Ex
open Ex
section
variable {F:List aG} {h:Heap}
theorem D4 {b0:Nat} {k x:ByteArray} (H:aD (pt b0 (.cells #[.string k,.string x] 50 (0,0))::F) h):aC prog 15 [.slice (some (Addr.mk b0 0 none)) 1 1] h fun v h'=>∃ t,v=aJ t∧aD (dG t [(k,x)]::F) h':=by
 have e1:[(k,x)].length<1000000:=show 1<1000000 by decide
 refine (rq (F:=pt b0 (.cells #[.string k,.string x] 50 (0,0))::F) (ps:=[(k,x)]) (fun h' hh=>lm hh rfl) rfl e1 H).mono ?_
 rintro v h' ⟨t,rfl,H'⟩
 exact ⟨t,rfl,H'.ordT 2 [0]⟩
set_option maxHeartbeats 2000000 in
theorem Dh (H:aD F h):aC prog 7 [] h fun v h'=>v=.bool true∧aD F h':=by
 apply LI.ap
 unfold F7
 refine (xi (room:=10000) H (by decide)).mono ?_
 rintro v h1 ⟨fb,rfl,H1⟩
 refine ⟨some ⟨fb,0,none⟩,0,rfl,?_⟩
 rw [show ((0:Int)!=0)=false from rfl,aa,show (some (⟨fb,0,none⟩:Addr)).isNone=false from rfl,aa]
 have W0:A0.WF:=Cu (by decide)
 refine (yr (A:=A0) (dir:=sS) W0 (by decide) (by decide) H1).mono ?_
 rintro v h2 ⟨W1,⟨b,D,N,ks,hks,_,rfl,iD,iN,H2⟩ | ⟨e,hks,_⟩⟩
 rotate_left
 · rw [Hu] at hks; cases hks
 rw [Hu] at hks
 cases hks
 have eD:D=[]:=iD.uniq ⟨List.Pairwise.nil,fun v=>by simp⟩
 have eN:N=[]:=iN.uniq ⟨List.Pairwise.nil,fun v=>by simp⟩
 subst eD eN
 refine ⟨some ⟨b,0,none⟩,0,rfl,?_⟩
 refine aQ H2 fun b0 h3 H3=>?_
 refine (D4 (k:=kA) (x:=kX) H3).mono ?_
 rintro v h4 ⟨t1,rfl,H4⟩
 refine ⟨some ⟨t1,0,none⟩,rfl,?_⟩
 dsimp only
 refine aQ H4 fun b1 h5 H5=>?_
 refine (D4 (k:=kB) (x:=kY) H5).mono ?_
 rintro v h6 ⟨t2,rfl,H6⟩
 refine ⟨some ⟨t2,0,none⟩,rfl,?_⟩
 dsimp only
 rw [show ((0:Int)!=0)=false from rfl,aa,show (some (⟨b,0,none⟩:Addr)).isNone=false from rfl,aa]
 have fit1:BF (bo (mrg [] ta)):=by rw [KM]; exact ⟨by rw [NH]; decide,by decide,by decide⟩
 have fit2:BF (bo (mrg ta tb)):=by rw [KL]; exact ⟨by rw [NG]; decide,by decide,by decide⟩
 have P1:=M4
 have P2:=NF
 have P3:=NE
 have P4:=OY
 refine (uR (S:=S0) (A:=A1) (v:=1) (pa:=none) (pb:=some ⟨t1,0,none⟩) (was:=[]) (now:=ta) W1 (by omega) (by decide) (by decide) (by decide) List.Pairwise.nil (MU _ _) fit1 ((TS.tabZ_none (TS.tabZ_some (H6.ordT 4 [1,2,3,0]))).ordT 5 [2,3,0,1,4])).mono ?_
 rw [Nd]
 rintro v h7 ⟨rfl,W2,H7⟩
 rw [aK,show ((((0:Nat):Int))!=0)=false from rfl,aa]
 refine (uR (S:=S1) (A:=A2) (v:=2) (pa:=some ⟨t1,0,none⟩) (pb:=some ⟨t2,0,none⟩) (was:=ta) (now:=tb) W2 (by omega) (by decide) (by decide) (by decide) (MU _ _) (MU _ _) fit2 ((TS.tabZ_some (H7.ordT 5 [4,0,1,3])).ordT 4 [1,2,3,0])).mono ?_
 rw [Nc]
 rintro v h8 ⟨rfl,W3,H8⟩
 rw [aK,show ((((0:Nat):Int))!=0)=false from rfl,aa]
 have O2:mH S2:=((O0.laid v1 100).laid v2 100)
 refine (zz (S:=S2) (A:=A3) (v:=2) O2 W3 (by omega) (by decide) (by decide) (H8.ordT 4 [0,1])).mono ?_
 rw [Kz]
 rintro v h9 ⟨rfl,W4,H9⟩
 rw [aK,show ((((0:Nat):Int))!=0)=false from rfl,aa]
 refine (xo (S:=S3) (A:=A4) (below:=2) W4 (by show A4.steps+2+1+20<_; omega) (by decide) (by decide) H9).mono ?_
 rw [Lc]
 rintro v h10 ⟨rfl,W5,_,H10⟩
 rw [aK,show ((((0:Nat):Int))!=0)=false from rfl,aa]
 refine (xn (S:=S4) H10 (by decide)).mono ?_
 rintro v h11 ⟨rfl,H11⟩
 rw [aK,show ((((S4.D.length+S4.N.length:Nat):Int))!=1)=false from rfl,aa]
 have O4:mH S4:=⟨List.Pairwise.nil,pairwise_singleton _ _,by simp [S4],fun p hp=>by rw [List.mem_singleton.1 hp]; exact v2⟩
 refine (uM (S:=S4) (A:=A5) (v:=2) O4 W5 (by decide) H11).mono ?_
 rw [KN]
 rintro v h12 (⟨u,t,hu,rfl,H12⟩ | ⟨e,hu,_⟩)
 rotate_left
 · cases hu
 cases hu
 refine ⟨some ⟨t,0,none⟩,0,rfl,?_⟩
 refine (uM (S:=S4) (A:=A5) (v:=1) O4 W5 (by decide) (H12.ordT 3 [1,2,0])).mono ?_
 rw [KO]
 rintro v h13 (⟨u,t,hu,_⟩ | ⟨e,hu,_,rfl,H13⟩)
 · cases hu
 cases hu
 refine ⟨none,180,rfl,?_⟩
 rw [show ((0:Int)==0)=true from rfl,ab,show ((180:Int)==180)=true from rfl,ab]
 refine (DJ (l:=tb) (by decide) (TS.tabZ_some (H13.mv 2))).mono ?_
 rintro v h14 ⟨pa,pc,rfl,H14⟩
 rw [aF]
 refine aQ H14 fun b3 h15 H15=>?_
 refine (uO (xs:=tb) (ys:=tb) (aI (H15.mv 1)) rfl (lm H15 rfl) rfl (by decide) rfl).mono ?_
 rintro v h16 ⟨rfl,rfl⟩
 rw [bE]
 exact ⟨rfl,H15.rest 5⟩
end
section
variable {f m b0 n i:Nat} {A:AF.FS} {y:lj} {hh hh0:Heap} {s t:Option Addr} {again:Option Addr×Option Addr×Bool×Int→Heap→Prop}
abbrev PY (b0:Nat) (y:lj):aG:=pt b0 (.cells y.arr 66 (0,0))
theorem uf {q:Fv} {F:List aG} {h h':Heap} (H:HO h q) (hs:aD (old h::F) h'):dw h' q.a (q.ps.flatMap pairC):=H.rd.old hs
theorem CH {was now:gX} (h1:pT was=false) (h2:pT now=false):BF (bo (mrg (fG was) (fG now))):=by
 obtain ⟨l1,m1⟩:=kQ h1
 obtain ⟨l2,m2⟩:=kQ h2
 have U1:=lq was
 have U2:=lq now
 have D:=TS.mrg_diffs ((fG was).length+(fG now).length) (av _) U1 U2
 have r1:=j5 was
 have r2:=j5 now
 exact (Au (n:=120) (m:=300) D U1 U2 (by omega) (by omega) (fun p hp=>m1 p (rT was p hp)) (fun p hp=>m2 p (rT now p hp)) (by omega)).1
set_option maxHeartbeats 4000000 in
theorem KU {b r:Nat} {S:eT} {Q:Value→Heap→Prop} (hk:y.k=0) (W:A.WF) (hst:A.steps+100000<1099511627776) (hfl:A.files.length+100000<1099511627776) (hn:n≤4500) (hi:i<1000000) (hy:oZ hh0 y) (hbw:pT y.was.ps=false) (hbn:pT y.now.ps=false)
  (O:mH S) (hd:S.dir=sS) (hD:S.D.length≤n) (hN:S.N.length≤n) (H:aD (dg b f S::be r m S::cg f A::bg m A::PY b0 y::[old hh0]) hh) (go:wJ f m A n i (PY b0 y::[old hh0]) again) :
  wZ (some ⟨f,0,none⟩) (some ⟨m,0,none⟩) b0 (some ⟨b,0,none⟩,some ⟨r,0,none⟩,false,(i:Int)) hh again Q:=by
 unfold wZ
 dsimp only
 obtain ⟨l1,m1⟩:=kQ hbw
 obtain ⟨l2,m2⟩:=kQ hbn
 have r1:=j5 y.was.ps
 have r2:=j5 y.now.ps
 refine d8 (H.mv 4) rfl ?_
 rw [li hk,ab]
 refine bJ (H.mv 4) rfl ?_
 refine bJ (H.mv 4) rfl ?_
 refine (xg (F:=dg b f S::be r m S::cg f A::bg m A::PY b0 y::[old hh0]) (ps:=y.was.ps) (fun h' h2=>uf hy.was (h2.mv 5)) hy.was.len (by have:=hy.was.len; omega) H).mono ?_
 rintro v h1 ⟨wa,wc,rfl,H1⟩
 rw [aF]
 refine ⟨rfl,bJ (H1.mv 5) rfl rfl,?_⟩
 refine (xg (F:=aL 50 2 wa (fG y.was.ps).length wc ((fG y.was.ps).flatMap pairC)::dg b f S::be r m S::cg f A::bg m A::PY b0 y::[old hh0]) (ps:=y.now.ps) (fun h' h2=>uf hy.now (h2.mv 6)) hy.now.len (by have:=hy.now.len; omega) H1).mono ?_
 rintro v h2 ⟨na,nc,rfl,H2⟩
 rw [aF]
 generalize hw1:fG y.was.ps=w1 at *
 generalize hw2:fG y.now.ps=w2 at *
 have U1:Tb.Up w1:=hw1▸lq _
 have U2:Tb.Up w2:=hw2▸lq _
 have hfit:BF (bo (mrg w1 w2)):=by rw [← hw1,← hw2]; exact CH hbw hbn
 refine d8 (i:=1) (H2.mv 6) rfl ?_
 refine d8 (i:=1) (H2.mv 6) rfl ?_
 refine (rq (F:=aL 50 2 na w2.length nc (w2.flatMap pairC)::aL 50 2 wa w1.length wc (w1.flatMap pairC)::dg b f S::be r m S::cg f A::bg m A::PY b0 y::[old hh0]) (ps:=w1) (fun h' h3=>aI (h3.mv 1)) rfl (by omega) H2).mono ?_
 rintro v h3 ⟨t1,rfl,H3⟩
 refine ⟨some ⟨t1,0,none⟩,rfl,?_⟩
 refine ⟨rfl,rfl,d8 (i:=1) (H3.mv 7) rfl rfl,rfl,rfl,rfl,d8 (i:=1) (H3.mv 7) rfl rfl,rfl,rfl,?_⟩
 refine (rq (F:=dG t1 (TS.ofL w1)::aL 50 2 na w2.length nc (w2.flatMap pairC)::aL 50 2 wa w1.length wc (w1.flatMap pairC)::dg b f S::be r m S::cg f A::bg m A::PY b0 y::[old hh0]) (ps:=w2) (fun h' h4=>aI (h4.mv 1)) rfl (by omega) H3).mono ?_
 rintro v h4 ⟨t2,rfl,H4⟩
 refine ⟨some ⟨t2,0,none⟩,rfl,?_⟩
 rw [Cp U1,Cp U2] at H4
 refine ⟨rfl,rfl,d8 (i:=1) (H4.mv 8) rfl rfl,rfl,rfl,d8 (i:=1) (H4.mv 8) rfl rfl,rfl,rfl,?_⟩
 have H5:aD (dg b f S::cg f A::cD (some ⟨t1,0,none⟩) w1::cD (some ⟨t2,0,none⟩) w2::aL 50 2 na w2.length nc (w2.flatMap pairC)::aL 50 2 wa w1.length wc (w1.flatMap pairC)::be r m S::bg m A::PY b0 y::[old hh0]) h4:=by
  have a1:=TS.tabZ_some (H4.mv 0);have a2:=TS.tabZ_some (a1.mv 1);exact a2.ordT 10 [4,6,0,1,2,3,5,7,8,9]
 refine (uR (v:=y.v) W (by omega) (by rw [hd]; decide) (by omega) (by omega) U1 U2 hfit H5).mono ?_
 rintro v h5 ⟨rfl,W',H6⟩
 rw [aK]
 refine ⟨rfl,rfl,d8 (i:=1) (H6.mv 8) rfl rfl,rfl,rfl,?_⟩
 have AA:=uD (v:=y.v) (was:=w1) (now:=w2) O W
 refine (DE (v:=y.v) (pa:=wa) (pb:=na) (ca:=wc) (cb:=nc) (F:=aL 50 2 wa w1.length wc (w1.flatMap pairC)::aL 50 2 na w2.length nc (w2.flatMap pairC)::dg b f (eM S A y.v w1 w2).2.1::cg f (eM S A y.v w1 w2).1::PY b0 y::[old hh0]) O W (by omega) (by omega) (by omega) (by omega) (fun h' hx=>aI (hx.mv 2)) (fun h' hx=>aI (hx.mv 3)) rfl rfl (by omega) (by omega) hfit (H6.ordT 10 [6,7,5,4,0,1,8,9])).mono ?_
 rintro v h6 ⟨rfl,H7⟩
 rw [aK,bne_self_eq_false,aa]
 refine iY (y:=y) (n:=n+1) W' hi AA.ok (by rw [AA.dir,hd]) (by have:=AA.d; omega) (by have:=AA.n; omega) (by omega) (H7.ordT 8 [4,0,5,1,6,7]) fun brk' h' hs=>go _ _ brk' _ h' W' (AA.gr.le (by omega)) hs
set_option maxHeartbeats 4000000 in
theorem KT {b r:Nat} {S:eT} {Q:Value→Heap→Prop} (hk:y.k=1) (W:A.WF) (hn:n≤4500) (hi:i<1000000)
  (O:mH S) (hd:S.dir=sS) (hD:S.D.length≤n) (hN:S.N.length≤n) (H:aD (dg b f S::be r m S::cg f A::bg m A::PY b0 y::[old hh0]) hh) (go:wJ f m A n i (PY b0 y::[old hh0]) again) :
  wZ (some ⟨f,0,none⟩) (some ⟨m,0,none⟩) b0 (some ⟨b,0,none⟩,some ⟨r,0,none⟩,false,(i:Int)) hh again Q:=by
 unfold wZ
 dsimp only
 refine d8 (H.mv 4) rfl ?_
 rw [jq (show ¬ y.k=0 by omega),aa,li hk,ab]
 refine d8 (i:=1) (H.mv 4) rfl ?_
 have fin:∀ h',aD (dg b f S::be r m S::cg f A::bg m A::PY b0 y::[old hh0]) h'→AN (some ⟨f,0,none⟩) (some ⟨m,0,none⟩) b0 (some ⟨b,0,none⟩) (some ⟨r,0,none⟩) false (i:Int) 0 h' again Q:=fun h' H'=>
  iY (y:=y) (e:=0) (n:=n+1) W hi O hd (by omega) (by omega) (by omega) H' fun brk' h' hs=>go _ _ brk' _ h' W (Gr.same _ A) hs
 refine (uM (v:=y.v) O W (by rw [hd]; decide) (H.ordT 4 [0,2,1,3])).mono ?_
 rintro v h1 (⟨u,tb,hu,rfl,H1⟩ | ⟨e,hu,e0,rfl,H1⟩)
 · refine ⟨some ⟨tb,0,none⟩,0,rfl,?_⟩;refine d8 (i:=1) (H1.mv 5) rfl ?_;refine (rn (v:=y.v) O W (by omega) (by omega) (H1.ordT 7 [3,4,0,1,2,5,6])).mono ?_;rintro v h2 (⟨u2,ta,tc,hu2,rfl,H2⟩ | ⟨e,hu2,_⟩)
   rotate_left
   · rw [hu] at hu2; cases hu2
   rw [hu] at hu2;cases hu2;have hul:=(kG hu (by omega)).len;refine ⟨ta,List.length u,tc,0,rfl,?_⟩;rw [show ((0:Int)!=0)=false from rfl,aa];refine (DJ hul (TS.tabZ_some (H2.mv 3))).mono ?_;rintro v h3 ⟨pa,pc,rfl,H3⟩;rw [aF];refine (uO (aI H3) rfl (aI (H3.mv 2)) rfl hul rfl).mono ?_;rintro v h4 ⟨rfl,rfl⟩;rw [bE,az,aa,aa];exact fin _ (H3.ordT 9 [5,3,6,4,7,8])
 · refine ⟨none,(e:Int),rfl,?_⟩;refine d8 (i:=1) (H1.mv 4) rfl ?_;refine (rn (v:=y.v) O W (by omega) (by omega) (H1.ordT 6 [2,3,0,1,4,5])).mono ?_;rintro v h2 (⟨u2,ta,tc,hu2,_⟩ | ⟨e2,hu2,_,rfl,H2⟩)
   · rw [hu] at hu2; cases hu2
   rw [hu] at hu2;cases hu2;refine ⟨none,0,0,(e:Int),rfl,?_⟩;rw [bne_self_eq_false,aa];refine (DJ (l:=[]) (by decide) (TS.tabZ_none H2)).mono ?_;rintro v h3 ⟨pa,pc,rfl,H3⟩;rw [aF];refine (uO (xs:=[]) (ys:=[]) (b:=none) (m:=0) (e:=0) (aI H3) rfl rfl rfl (by decide) rfl).mono ?_;rintro v h4 ⟨rfl,rfl⟩;rw [bE,az,aa,show ((0:Int)!=0)=false from rfl,aa];exact fin _ (H3.ordT 8 [4,2,5,3,6,7])
set_option maxHeartbeats 4000000 in
theorem KS {b r:Nat} {S:eT} {Q:Value→Heap→Prop} (hk:y.k=2) (W:A.WF) (hst:A.steps+100000<1099511627776) (hfl:A.files.length+100000<1099511627776) (hn:n≤4500) (hi:i<1000000)
  (O:mH S) (hd:S.dir=sS) (hD:S.D.length≤n) (hN:S.N.length≤n) (H:aD (dg b f S::be r m S::cg f A::bg m A::PY b0 y::[old hh0]) hh) (go:wJ f m A n i (PY b0 y::[old hh0]) again) :
  wZ (some ⟨f,0,none⟩) (some ⟨m,0,none⟩) b0 (some ⟨b,0,none⟩,some ⟨r,0,none⟩,false,(i:Int)) hh again Q:=by
 unfold wZ
 dsimp only
 refine d8 (H.mv 4) rfl ?_
 rw [jq (show ¬ y.k=0 by omega),aa,jq (show ¬ y.k=1 by omega),aa,li hk,ab]
 refine d8 (i:=1) (H.mv 4) rfl ?_
 refine d8 (i:=1) (H.mv 4) rfl ?_
 refine (zz (v:=y.v) O W (by omega) (by rw [hd]; decide) (by omega) (H.ordT 4 [0,2,1,3])).mono ?_
 rintro v h1 ⟨rfl,W',H1⟩
 rw [aK]
 refine ⟨rfl,rfl,d8 (i:=1) (H1.mv 4) rfl rfl,?_⟩
 have AA:=xC (v:=y.v) O W
 refine (DD (v:=y.v) O W (by omega) (by omega) (by omega) (by omega) (H1.ordT 6 [2,3,0,1,4,5])).mono ?_
 rintro v h2 ⟨rfl,H2⟩
 rw [aK,bne_self_eq_false,aa]
 exact iY (y:=y) (n:=n+1) W' hi AA.ok (by rw [AA.dir,hd]) (by have:=AA.d; omega) (by have:=AA.n; omega) (by omega) (H2.ordT 6 [2,0,3,1,4,5]) fun brk' h' hs=>go _ _ brk' _ h' W' (AA.gr.le (by omega)) hs
set_option maxHeartbeats 4000000 in
theorem KR {b r:Nat} {S:eT} {Q:Value→Heap→Prop} (hk:y.k=3) (W:A.WF) (hst:A.steps+100000<1099511627776) (hfl:A.files.length+100000<1099511627776) (hn:n≤4500) (hi:i<1000000)
  (O:mH S) (hd:S.dir=sS) (hD:S.D.length≤n) (hN:S.N.length≤n) (H:aD (dg b f S::be r m S::cg f A::bg m A::PY b0 y::[old hh0]) hh) (go:wJ f m A n i (PY b0 y::[old hh0]) again) :
  wZ (some ⟨f,0,none⟩) (some ⟨m,0,none⟩) b0 (some ⟨b,0,none⟩,some ⟨r,0,none⟩,false,(i:Int)) hh again Q:=by
 unfold wZ
 dsimp only
 refine d8 (H.mv 4) rfl ?_
 rw [jq (show ¬ y.k=0 by omega),aa,jq (show ¬ y.k=1 by omega),aa,jq (show ¬ y.k=2 by omega),aa,li hk,ab]
 refine d8 (i:=1) (H.mv 4) rfl ?_
 refine d8 (i:=1) (H.mv 4) rfl ?_
 refine (xo (below:=y.v) W (by omega) (by rw [hd]; decide) (by omega) (H.ordT 4 [0,2,1,3])).mono ?_
 rintro v h1 ⟨rfl,W',_,H1⟩
 rw [aK]
 refine ⟨rfl,rfl,d8 (i:=1) (H1.mv 4) rfl rfl,?_⟩
 obtain ⟨O',hd',hD',hN',G'⟩:=yh (A:=A) (v:=y.v) O
 refine (DC (below:=y.v) O W (by omega) (by omega) (by omega) (H1.ordT 6 [2,3,0,1,4,5])).mono ?_
 rintro v h2 ⟨rfl,S',H2,hS'⟩
 rw [aK,bne_self_eq_false,aa]
 rcases hS' with rfl | hhard
 · exact iY (y:=y) (n:=n+1) W' hi O' (by rw [hd',hd]) (by omega) (by omega) (by omega) (H2.ordT 6 [2,0,3,1,4,5]) fun brk' h' hs=>go _ _ brk' _ h' W' (G'.le (by omega)) hs
 · refine rQ (y:=y) W' hi ⟨by omega,by omega⟩ (by rcases hhard with e | e | e | e <;> rw [e] <;> decide) (H2.ordT 6 [3,1,4,5]) fun h' H'=>go _ _ true _ h' W' (G'.le (by omega)) (.inl ⟨rfl,H'⟩)
set_option maxHeartbeats 4000000 in
theorem KQ {brk:Bool} {Q:Value→Heap→Prop} (hk:y.k=4) (W:A.WF) (hst:A.steps+100000<1099511627776) (hfl:A.files.length+100000<1099511627776) (hn:n≤4500) (hn2:4096≤n) (hi:i<1000000)
  (H:aD (cg f A::bg m A::PY b0 y::[old hh0]) hh) (go:wJ f m A n i (PY b0 y::[old hh0]) again) :
  wZ (some ⟨f,0,none⟩) (some ⟨m,0,none⟩) b0 (s,t,brk,(i:Int)) hh again Q:=by
 unfold wZ
 dsimp only
 refine d8 (H.mv 2) rfl ?_
 rw [jq (show ¬ y.k=0 by omega),aa,jq (show ¬ y.k=1 by omega),aa,jq (show ¬ y.k=2 by omega),aa,jq (show ¬ y.k=3 by omega),aa,li hk,ab]
 have T:=AF.sf sS W
 refine (yr (dir:=sS) W (by omega) (by decide) H).mono ?_
 rintro v h1 ⟨W',⟨b,D,N,ks,hks,hkl,rfl,iD,iN,H1⟩ | ⟨e,hks,e0,rfl,H1⟩⟩
 · refine ⟨some ⟨b,0,none⟩,0,rfl,?_⟩;refine (oq (dir:=sS) W W' (by omega) (by omega) (H1.mv 2)).mono ?_;rintro v h2 (⟨r,D2,N2,ks2,hks2,rfl,iD2,iN2,H2⟩ | ⟨e,hks2,_⟩)
   rotate_left
   · rw [hks] at hks2; cases hks2
   rw [hks] at hks2;cases hks2;have eD:=iD.uniq iD2;have eN:=iN.uniq iN2;subst eD eN;refine ⟨some ⟨r,0,none⟩,0,rfl,?_⟩;rw [show ((0:Int)!=0)=false from rfl,aa];have l1:=iD.len (by decide);have l2:=iN.len (by decide);exact iY (y:=y) (e:=0) (S:=⟨sS,D,N⟩) (n:=n+1) W' hi ⟨iD.1,iN.1,iD.ok,iN.ok⟩ rfl (by dsimp only; omega) (by dsimp only; omega) (by omega) (H2.ordT 6 [2,0,3,1,4,5]) fun brk' h' hs=>go _ _ brk' _ h' W' (T.2.le (by omega)) hs
 · refine ⟨none,(e:Int),rfl,?_⟩;refine (oq (dir:=sS) W W' (by omega) (by omega) (H1.mv 1)).mono ?_;rintro v h2 (⟨r,D2,N2,ks2,hks2,_⟩ | ⟨e2,hks2,_,rfl,H2⟩)
   · rw [hks] at hks2; cases hks2
   rw [hks] at hks2;cases hks2;refine ⟨none,(e:Int),rfl,?_⟩;rw [bne_self_eq_false,aa,bm e0];exact rP W' hi (H2.ordT 2 [1,0]) fun h' H'=>go _ _ true _ h' W' (T.2.le (by omega)) (.inl ⟨rfl,H'⟩)
end
section
variable {f m b0 n i:Nat} {A:AF.FS} {y:lj} {hh hh0:Heap} {s t:Option Addr} {brk:Bool} {again:Option Addr×Option Addr×Bool×Int→Heap→Prop}
set_option maxHeartbeats 4000000 in
theorem HF {X:List aG} {Q:Value→Heap→Prop} (hk:¬ y.k=0∧¬ y.k=1∧¬ y.k=2∧¬ y.k=3∧¬ y.k=4) (W:A.WF) (hst:A.steps+100000<1099511627776) (hfl:A.files.length+100000<1099511627776) (hn:n≤4500) (hi:i<1000000) (hy:ot hh0 y.fs) (hL:zp y.fs)
  (hX:(brk=true∧X=[])∨(brk=false∧∃ b r S,s=some ⟨b,0,none⟩∧t=some ⟨r,0,none⟩∧mH S∧S.dir=sS∧S.D.length≤n∧S.N.length≤n∧X=[dg b f S,be r m S]))
  (H:aD (cg f A::bg m A::PY b0 y::old hh0::X) hh) (go:wJ f m A n i (PY b0 y::[old hh0]) again) :
  wZ (some ⟨f,0,none⟩) (some ⟨m,0,none⟩) b0 (s,t,brk,(i:Int)) hh again Q:=by
 obtain ⟨k0,k1,k2,k3,k4⟩:=hk
 have hLd:=hL.dir
 have hLn:=hL.name
 have hLb:=hL.b
 unfold wZ
 dsimp only
 have HP:=H.mv 2
 refine d8 HP rfl ?_
 rw [jq k0,aa,jq k1,aa,jq k2,aa,jq k3,aa,jq k4,aa]
 simp only [cZ]
 obtain ⟨turn,hturn⟩:∃ t:Nat,y.fs.turn=(t:Int):=⟨y.fs.turn.toNat,by have:=hy.turn.1; omega⟩
 have ht:turn<256:=by have:=hy.turn.2; omega
 obtain ⟨ps,hpr,hpl,hpc,hpm⟩:=hy.picks
 refine eU (v:=.int .i64 y.fs.k) HP rfl (eU (v:=.string y.fs.dir) HP rfl (eU (v:=.string y.fs.name) HP rfl (eU (v:=.string y.fs.b) HP rfl (eU (v:=.int .i64 y.fs.n) HP rfl (eU (v:=.int .u8 y.fs.turn) HP rfl (eU (v:=.slice y.fs.pa y.fs.pl y.fs.pc) HP rfl ?_))))))
 refine ⟨y.fs.k,y.fs.dir,y.fs.name,y.fs.b,y.fs.n,y.fs.turn,y.fs.pa,y.fs.pl,y.fs.pc,rfl,?_⟩
 refine eU (v:=.int .i64 y.fs.k) HP rfl (eU (v:=.string y.fs.dir) HP rfl (eU (v:=.string y.fs.name) HP rfl (eU (v:=.string y.fs.b) HP rfl (eU (v:=.int .i64 y.fs.n) HP rfl (eU (v:=.int .u8 y.fs.turn) HP rfl (eU (v:=.slice y.fs.pa y.fs.pl y.fs.pc) HP rfl ?_))))))
 refine ⟨y.fs.k,y.fs.dir,y.fs.name,y.fs.b,y.fs.n,y.fs.turn,y.fs.pa,y.fs.pl,y.fs.pc,rfl,?_⟩
 have hp1:uJ (bg m A::PY b0 y::old hh0::X) ps y.fs.pa y.fs.pl y.fs.pc:=⟨hpl,hpc,fun h' hx=>hpr.old (hx.mv 2)⟩
 rw [hturn]
 refine (DA (k:=y.fs.k) (dir:=y.fs.dir) (name:=y.fs.name) (b:=y.fs.b) (n:=y.fs.n) (turn:=turn) W (by omega) (by omega) (by omega) (by omega) ht hy.n.2 hp1 H).mono ?_
 rintro v h1 ⟨rfl,H1⟩
 rw [aK]
 have HC:=H1.mv 2
 rw [← hturn]
 refine ⟨rfl,rfl,eU (v:=.int .i64 y.fs.k) HC rfl (eU (v:=.string y.fs.dir) HC rfl (eU (v:=.string y.fs.name) HC rfl (eU (v:=.string y.fs.b) HC rfl (eU (v:=.int .i64 y.fs.n) HC rfl (eU (v:=.int .u8 y.fs.turn) HC rfl (eU (v:=.slice y.fs.pa y.fs.pl y.fs.pc) HC rfl ⟨y.fs.k,y.fs.dir,y.fs.name,y.fs.b,y.fs.n,y.fs.turn,y.fs.pa,y.fs.pl,y.fs.pc,rfl,rfl⟩)))))),?_⟩
 have hp2:uJ (cg f (A.act y.fs.k y.fs.dir y.fs.name y.fs.b y.fs.n turn ps).1::PY b0 y::old hh0::X) ps y.fs.pa y.fs.pl y.fs.pc:=⟨hpl,hpc,fun h' hx=>hpr.old (hx.mv 2)⟩
 rw [hturn]
 refine (Dz (k:=y.fs.k) (dir:=y.fs.dir) (name:=y.fs.name) (b:=y.fs.b) (n:=y.fs.n) (turn:=turn) W (by omega) (by omega) (by omega) ht hp2 (H1.mv 1)).mono ?_
 rintro v h2 ⟨rfl,H2⟩
 have W':=W.act (k:=y.fs.k) (dir:=y.fs.dir) (name:=y.fs.name) (b:=y.fs.b) (ps:=ps) hy.n.2 ht
 have G1:AF.Gr 1 A (A.act y.fs.k y.fs.dir y.fs.name y.fs.b y.fs.n turn ps).1:=AF.dV.act
 generalize hact:A.act y.fs.k y.fs.dir y.fs.name y.fs.b y.fs.n turn ps=q at *
 rw [aK,bne_self_eq_false,aa]
 rcases hX with ⟨rfl,rfl⟩ | ⟨rfl,b,r,S,rfl,rfl,O,hd,hD,hN,rfl⟩
 · rw [ab,show ((0:Int)!=0)=false from rfl,aa];refine (lW W' (H2.ordT 2 [1,0])).mono ?_;rintro v h3 ⟨rfl,H3⟩;rw [bE,az,aa,aH (by omega)];exact ⟨rfl,rfl,rfl,rfl,rfl,rfl,rfl,rfl,rfl,rfl,rfl,go _ _ true _ h3 W' (G1.le (by decide)) (.inl ⟨rfl,H3⟩)⟩
 have Hb:aD (cg f q.1::bg m q.1::PY b0 y::[old hh0]) h2:=H2.ordT 6 [1,0,2,3]
 have Hs:aD (dg b f S::be r m S::cg f q.1::bg m q.1::PY b0 y::[old hh0]) h2:=H2.ordT 6 [4,5,1,0,2,3]
 rw [aa]
 refine d8 (H2.mv 2) rfl ?_
 by_cases h7:y.fs.k=7
 rotate_left
 · rw [show (y.fs.k !=7)=true from by rw [bne_iff_ne]; exact h7,ab];refine d8 (H2.mv 2) rfl ?_;rw [show ((0:Int)!=0)=false from rfl,aa];by_cases h8:y.fs.k=8
   · rw [show (y.fs.k !=8)=false from by rw [h8]; rfl];exact iY (y:=y) (e:=0) (n:=n+1) W' hi O hd (by omega) (by omega) (by omega) Hs fun brk' h' hs=>go _ _ brk' _ h' W' (G1.le (by decide)) hs
   · rw [show (y.fs.k !=8)=true from by rw [bne_iff_ne]; exact h8];exact rP W' hi Hb fun h' H'=>go _ _ true _ h' W' (G1.le (by decide)) (.inl ⟨rfl,H'⟩)
 rw [show (y.fs.k !=7)=false from by rw [h7]; rfl,aa,show ((0:Int)!=0)=false from rfl,aa]
 refine (lW W' (Hs.ordT 4 [2,3,0,1])).mono ?_
 rintro v h3 ⟨rfl,H3⟩
 rw [bE,az,aa]
 have H4:aD (dg b f S::be r m S::cg f q.1::bg m q.1::PY b0 y::[old hh0]) h3:=H3.ordT 4 [2,3,0,1]
 have chk:xu (some ⟨b,0,none⟩) (some ⟨r,0,none⟩) false (i:Int) h3 again Q:=
  CW (by omega) (by omega) hi H4 fun h' H'=>go _ _ false _ h' W' (G1.le (by decide)) (.inr ⟨rfl,b,r,S,rfl,rfl,O,hd,by omega,by omega,H'⟩)
 refine d8 (H4.mv 4) rfl ?_
 by_cases hk0:0≤y.k
 rotate_left
 · rw [ae (show ¬ y.k≥0 from hk0),aa];exact chk
 rw [af (show y.k≥0 from hk0),ab]
 refine d8 (H4.mv 4) rfl ?_
 rw [ae (show ¬ y.k<4 by omega),aa]
 exact chk
theorem SI.all {G:List aG} (H:SI f m s t brk A n G hh):aD (cg f A::bg m A::G) hh:=by
 rcases H with ⟨_,H⟩ | ⟨_,b,r,S,_,_,_,_,_,_,H⟩
 · exact H
 · exact H.drop.drop
theorem Cz {Q:Value→Heap→Prop} (W:A.WF) (hst:A.steps+100000<1099511627776) (hfl:A.files.length+100000<1099511627776) (hn:n≤4500) (hn2:4096≤n) (hi:i<1000000) (hy:oZ hh0 y) (hL:zp y.fs) (hbw:pT y.was.ps=false) (hbn:pT y.now.ps=false)
  (hnb:0≤y.k→y.k<4→brk=false) (HI:SI f m s t brk A n (PY b0 y::[old hh0]) hh) (go:wJ f m A n i (PY b0 y::[old hh0]) again) :
  wZ (some ⟨f,0,none⟩) (some ⟨m,0,none⟩) b0 (s,t,brk,(i:Int)) hh again Q:=by
 by_cases k4:y.k=4
 · exact KQ k4 W hst hfl hn hn2 hi HI.all go
 by_cases hk:0≤y.k∧y.k<4
 · have hb:=hnb hk.1 hk.2
   rcases HI with ⟨h1,_⟩ | ⟨_,b,r,S,rfl,rfl,O,hd,hD,hN,H⟩
   · rw [hb] at h1; cases h1
   subst hb;by_cases k0:y.k=0
   · exact KU k0 W hst hfl hn hi hy hbw hbn O hd hD hN H go
   by_cases k1:y.k=1
   · exact KT k1 W hn hi O hd hD hN H go
   by_cases k2:y.k=2
   · exact KS k2 W hst hfl hn hi O hd hD hN H go
   · exact KR (by omega) W hst hfl hn hi O hd hD hN H go
 · have hks:¬ y.k=0∧¬ y.k=1∧¬ y.k=2∧¬ y.k=3∧¬ y.k=4:=by omega
   rcases HI with ⟨h1,H⟩ | ⟨h1,b,r,S,e1,e2,O,hd,hD,hN,H⟩
   · exact HF (X:=[]) hks W hst hfl hn hi hy.fs hL (.inl ⟨h1,rfl⟩) H go
   · exact HF (X:=[dg b f S,be r m S]) hks W hst hfl hn hi hy.fs hL (.inr ⟨h1,b,r,S,e1,e2,O,hd,hD,hN,rfl⟩) (H.ordT 6 [2,3,4,5,0,1]) go
end
open Go Go.RowKit Go.ChangeShapes Go.WideShapes Go.ChangeAt
def ut (P:Program) (fs:Array Field) (i off:Nat):Bool:=
 match fs[i]? with
 | some f=>f.offset==off&&(match P.underlying f.type with
   | some (.slice e)=>P.cellsOf f.type==1&&(uj P e&&P.cellsOf e==2)
   | _=>false)
 | none=>false
def BY (P:Program) (t:TypeId):Bool:=
 match P.underlying t with
 | some (.struct fs)=>(fs.size==5&&P.cellsOf t==11)&&((lg P fs 0 pE&&lg P fs 1 pE)&&((ut P fs 2 2&&ut P fs 3 3)&&yd P fs 4 4))
 | _=>false
def lj.cells (x:lj):List Value:=x.arr.toList
def kW (h:Heap) (a:Option Addr) (acts:List lj):Prop:=
 ∀ (i:Nat) (x:lj),acts[i]? = some x→oZ h x∧∃ b,a=some b∧∀ (j:Nat) (v:Value),x.cells[j]? = some v→ck h (b.add (i*11+j))=some v
section
variable {H:Type} {enc:TypeId×Value→H} {P:Program} {w:World} {base:Nat} {spare:Nat→Bool} {held:Bool}
theorem y9 {fs:Array Field} {i off n:Nat} {cs:List Value} {xs:List (DataW H×List MemPlace)} (hf:ut P fs i off=true) (hx:i<xs.length) (hl:off<cs.length)
  (hr:∀ (i:Nat) (f:Field),fs[i]? = some f→DataW.trod enc P w base spare held n f.type ((cs.drop f.offset).take (P.cellsOf f.type))=xs[i]?)
  (hw:∀ (f:Field) (y:DataW H×List MemPlace),fs[i]? = some f→xs[i]? = some y→∀ k∈y.1.weights P f.type,k≤reachBytes) :
  ∃ q:Fv,cs[off]? = some q.v∧HO w.heap q:=by
 unfold ut at hf
 cases hi:fs[i]? with
 | none=>rw [hi] at hf; cases hf
 | some f=>
   rw [hi] at hf;simp only [aw,beq_iff_eq] at hf;obtain ⟨ho,hf⟩:=hf;split at hf
   · rename_i e he;simp only [aw,beq_iff_eq] at hf;obtain ⟨hc,hp,hc2⟩:=hf;have h1:=hr i f hi;obtain ⟨y,hy⟩:∃ y,xs[i]? = some y:=⟨_,ah hx⟩
     rw [ho,hc,hy] at h1;obtain ⟨v,hv⟩:∃ v,cs[off]? = some v:=⟨_,ah hl⟩
     have e1:(cs.drop off).take 1=[v]:=by
      rw [drop_eq_getElem_cons hl];rw [ah hl] at hv;rw [← Option.some.inj hv]
      rfl
     rw [e1] at h1;obtain ⟨d,pl⟩:=y;obtain ⟨q,hq,hin⟩:=Cj he hp hc2 h1 (hw f _ hi hy);exact ⟨q,by rw [hv,hq],hin⟩
   · cases hf
theorem BX {t:TypeId} {fuel:Nat} {cs:List Value} {d:DataW H} {pl:List MemPlace} (hA:BY P t=true) (h:DataW.trod enc P w base spare held fuel t cs=some (d,pl)) (hwt:∀ k∈d.weights P t,k≤reachBytes):∃ v:lj,cs=v.cells∧oZ w.heap v:=by
 unfold BY at hA
 cases hu:P.underlying t with
 | none=>rw [hu] at hA; cases hA
 | some u=>
   rw [hu] at hA
   cases u with
   | struct fs=>
     simp only [aw,beq_iff_eq] at hA;obtain ⟨⟨hsz,hC⟩,⟨i0,i1⟩,⟨p2,p3⟩,hact⟩:=hA;obtain ⟨xs,n,_,hd,hlen,hxl,hr⟩:=DataW.trod_struct hu h;rw [hC] at hlen;rw [hsz] at hxl;have hw:∀ (i:Nat) (f:Field) (y:DataW H×List MemPlace),fs[i]? = some f→xs[i]? = some y→∀ k∈y.1.weights P f.type,k≤reachBytes:=fun i f y hf hy k hk=>by
      refine hwt k ?_;have e:d=.agg (xs.map (·.1)):=congrArg Prod.fst hd;rw [e];simp only [DataW.weights,hu];exact DataW.weights_mem_each (j:=i) (by rw [getElem?_map]; rw [← Array.getElem?_toList] at hf; rw [hf]; rfl) (by rw [getElem?_map,hy]; rfl) k hk
     obtain ⟨x,hx,hok⟩:=Fg hact (by omega) hr;obtain ⟨q2,c2,in2⟩:=y9 p2 (by omega) (by omega) hr (hw 2);obtain ⟨q3,c3,in3⟩:=y9 p3 (by omega) (by omega) hr (hw 3);have each:∀ i,lg P fs i pE=true→i<5→∃ z:Int,cs[i]? = some (iv z) ∧ -9223372036854775808≤z∧z≤9223372036854775807:=by
      intro i hf hi;obtain ⟨t0,u0,y0,e0,d0,r0⟩:=iz hf (by omega) (by omega) hr;rw [nU d0] at e0;obtain ⟨z0,c0,_,w0⟩:=DataW.trod_int e0 r0;simp only [List.cons.injEq,and_true] at c0;simp only [Lit.wf,aw,decide_eq_true_eq] at w0;exact ⟨z0,by rw [ah (by omega),c0]; rfl,w0.1,w0.2⟩
     obtain ⟨z0,c0,b0⟩:=each 0 i0 (by decide);obtain ⟨z1,c1,b1⟩:=each 1 i1 (by decide);refine ⟨⟨z0,z1,q2,q3,x⟩,?_,b0,b1,in2,in3,hok⟩;have h4:cs.drop 4=x.cells:=by
      rw [← hx,ar (by rw [length_drop]; omega)]
     match cs,hlen with
     | e0::e1::e2::e3::r,_=>
       simp only [getElem?_cons_zero,getElem?_cons_succ,Option.some.injEq] at c0 c1 c2 c3;simp only [drop_succ_cons,drop_zero] at h4;rw [c0,c1,c2,c3,h4]
       rfl
   | _=>cases hA
theorem xE {r:Reach} {b0:Nat} {t e:TypeId} {v:Value} {d:DataW H} {p:List MemPlace}
  (ht:P.underlying t=some (.slice e)) (hA:BY P e=true) (hC:P.cellsOf e=11) (hv:Value.okWide P w r b0 t v) (h:DataW.Trod enc P w base spare held t v d p) (hw:∀ n∈d.weights P t,n≤reachBytes) :
  ∃ (a:Option Addr) (l c:Nat) (acts:List lj),v=.slice a l c∧acts.length=l∧l≤c∧c≤maxLen∧kW w.heap a acts:=by
 obtain ⟨a,l,c,rfl⟩:=okWide_slice ht hv
 obtain ⟨fuel,hf⟩:=h
 rcases Go.Deep.open_slice ht hf with ⟨hcs,_⟩ | ⟨a',len,cap,m,n,D,Pl,hcs,hb,hl,hm,hmm,hx,hel⟩
 · simp [Value.cells] at hcs;obtain ⟨rfl,rfl,rfl⟩:=hcs;exact ⟨none,0,0,[],rfl,rfl,av _,au _,fun i x hx=>by simp at hx⟩
 · simp [Value.cells] at hcs;obtain ⟨rfl,rfl,rfl⟩:=hcs;rw [hC] at hel;have hlm:l≤m:=by
    rw [hmm];split <;> omega
   have hd:d=.slice ((List.range l).map D) ((List.range (m - l)).map fun j=>D (l+j)):=congrArg Prod.fst hx;have hwi:∀ i,i<l→∀ n∈(D i).weights P e,n≤reachBytes:=fun i hi n hn=>hw n (by
    rw [hd];simp only [DataW.weights,ht];exact aB _ (List.mem_append.2 (.inl (ja (List.mem_map.2 ⟨i,List.mem_range.2 hi,rfl⟩) n hn))))
   obtain ⟨acts,hal,hac⟩:=lN (P:=fun i (x:lj)=>oZ w.heap x∧∀ (j:Nat) (v:Value),x.cells[j]? = some v→ck w.heap (a'.add (i*11+j))=some v) l fun i hi=>by
    obtain ⟨cs',hc1,hc2⟩:=hel i (by omega);obtain ⟨x,hx,hok⟩:=BX hA hc2 (hwi i hi);refine ⟨x,hok,fun j v hj=>?_⟩;obtain ⟨_,_,hcell⟩:=World.cells?_some hc1;have hj11:j<11:=(aj.1 hj).1;have:=hcell j hj11;rw [hx,hj,cY,cZ] at this;exact this
   refine ⟨some a',l,c,acts,rfl,hal,hl,hm,fun i x hi=>?_⟩;obtain ⟨h1,h2⟩:=hac i x hi;exact ⟨h1,a',rfl,h2⟩
end
theorem kW.at {h:Heap} {a:Option Addr} {acts:List lj} {l i:Nat} {x:lj} {K:Addr→Prop} (H:kW h a acts) (hl:acts.length=l) (hi:acts[i]? = some x)
  (hK:∀ b,a=some b→(∀ (j:Nat) (v:Value),x.cells[j]? = some v→ck h ((b.add (i*11)).add j)=some v)→K (b.add (i*11))):aM a l (i:Int) 11 K:=by
 obtain ⟨_,b,hb,hc⟩:=H i x hi
 have:=(aj.1 hi).1
 refine ⟨b,hb,by omega,by omega,?_⟩
 rw [Int.toNat_natCast]
 exact hK b hb fun j v hj=>by rw [cZ]; exact hc j v hj
theorem ot.old {h h':Heap} {F:List aG} {y:lX} (h1:ot h y) (hs:aD (old h::F) h'):ot h' y:=by
 obtain ⟨ps,hr,h2,h3⟩:=h1.picks
 exact ⟨h1.k,h1.n,h1.turn,h1.dir,h1.name,h1.b,ps,hr.old hs,h2,h3⟩
theorem kW.old {h h':Heap} {F:List aG} {a:Option Addr} {acts:List lj} (H:kW h a acts) (hs:aD (old h::F) h'):kW h' a acts:=by
 intro i x hi
 obtain ⟨h1,b,hb,hc⟩:=H i x hi
 exact ⟨⟨h1.k,h1.v,h1.was.old hs,h1.now.old hs,h1.fs.old hs⟩,b,hb,fun j v hj=>hs.oldCell (hc j v hj)⟩
abbrev lX.arr (y:lX):Array Value:=#[.int .i64 y.k,.string y.dir,.string y.name,.string y.b,.int .i64 y.n,.int .u8 y.turn,.slice y.pa y.pl y.pc]
theorem E0 {h:Heap} {F:List aG} {b:Nat} {e:TypeId} {y:lX} (H:aD (pt b (.cells y.arr e (0,0))::F) h) (hy:ot h y):uV h (some ⟨b,0,none⟩) [y]:=by
 intro i x hx
 cases i with
 | succ i=>simp at hx
 | zero=>
   simp only [getElem?_cons_zero,Option.some.injEq] at hx;subst hx;refine ⟨hy,_,rfl,fun j v hj=>?_⟩;rw [Nat.zero_mul,Nat.zero_add,dR H.get,← Array.getElem?_toList];exact hj
section
variable {f m n:Nat} {s t:Option Addr} {brk:Bool} {A:AF.FS} {hh:Heap}
theorem SI.frame {O:aG} (HI:SI f m s t brk A n [O] hh):∃ Z,aD (O::Z) hh∧∀ (P:aG) h',aD (P::O::Z) h'→SI f m s t brk A n [P,O] h':=by
 rcases HI with ⟨h1,H⟩ | ⟨h1,b,r,S,e1,e2,O1,hd,hD,hN,H⟩
 · exact ⟨[cg f A,bg m A],H.ordT 3 [2,0,1],fun P h' H'=>.inl ⟨h1,H'.ordT 4 [2,3,0,1]⟩⟩
 · exact ⟨[dg b f S,be r m S,cg f A,bg m A],H.ordT 5 [4,0,1,2,3],fun P h' H'=>.inr ⟨h1,b,r,S,e1,e2,O1,hd,hD,hN,H'.ordT 6 [2,3,4,5,0,1]⟩⟩
theorem SI.drop {P O:aG} (HI:SI f m s t brk A n [P,O] hh):SI f m s t brk A n [O] hh:=by
 rcases HI with ⟨h1,H⟩ | ⟨h1,b,r,S,e1,e2,O1,hd,hD,hN,H⟩
 · exact .inl ⟨h1,H.ordT 4 [0,1,3]⟩
 · exact .inr ⟨h1,b,r,S,e1,e2,O1,hd,hD,hN,H.ordT 6 [0,1,2,3,5]⟩
theorem SI.more {G:List aG} (HI:SI f m s t brk A n G hh):SI f m s t brk A (n+1) G hh:=by
 rcases HI with ⟨h1,H⟩ | ⟨h1,b,r,S,e1,e2,O1,hd,hD,hN,H⟩
 · exact .inl ⟨h1,H⟩
 · exact .inr ⟨h1,b,r,S,e1,e2,O1,hd,by omega,by omega,H⟩
end
theorem M3 {F:List aG} {b:Nat} {e:TypeId} {a0 a1 a2 a3 a4 a5 a6 a7 a8 a9 a10 b0 b1 b2 b3 b4 b5 b6 b7 b8 b9 b10:Value} {h0:Heap} {K:Heap→Prop} (H0:aD (pt b (.cells #[a0,a1,a2,a3,a4,a5,a6,a7,a8,a9,a10] e (0,0))::F) h0) (hK:∀ h',aD (pt b (.cells #[b0,b1,b2,b3,b4,b5,b6,b7,b8,b9,b10] e (0,0))::F) h'→K h') :
  bI h0 ((Addr.mk b 0 none).add 0) b0 fun h1=>bI h1 ((Addr.mk b 0 none).add 1) b1 fun h2=>bI h2 ((Addr.mk b 0 none).add 2) b2 fun h3=>bI h3 ((Addr.mk b 0 none).add 3) b3 fun h4=>bI h4 ((Addr.mk b 0 none).add 4) b4 fun h5=>bI h5 ((Addr.mk b 0 none).add 5) b5 fun h6=>bI h6 ((Addr.mk b 0 none).add 6) b6 fun h7=>bI h7 ((Addr.mk b 0 none).add 7) b7 fun h8=>bI h8 ((Addr.mk b 0 none).add 8) b8 fun h9=>bI h9 ((Addr.mk b 0 none).add 9) b9 fun h10=>bI h10 ((Addr.mk b 0 none).add 10) b10 fun h11=>K h11:=by
 refine cd H0 (show (0:Nat)<11 by decide) rfl fun h1 G1=>?_
 have H1:aD (pt b (.cells #[b0,a1,a2,a3,a4,a5,a6,a7,a8,a9,a10] e (0,0))::F) h1:=G1
 clear G1 H0
 refine cd H1 (show (1:Nat)<11 by decide) rfl fun h2 G2=>?_
 have H2:aD (pt b (.cells #[b0,b1,a2,a3,a4,a5,a6,a7,a8,a9,a10] e (0,0))::F) h2:=G2
 clear G2 H1
 refine cd H2 (show (2:Nat)<11 by decide) rfl fun h3 G3=>?_
 have H3:aD (pt b (.cells #[b0,b1,b2,a3,a4,a5,a6,a7,a8,a9,a10] e (0,0))::F) h3:=G3
 clear G3 H2
 refine cd H3 (show (3:Nat)<11 by decide) rfl fun h4 G4=>?_
 have H4:aD (pt b (.cells #[b0,b1,b2,b3,a4,a5,a6,a7,a8,a9,a10] e (0,0))::F) h4:=G4
 clear G4 H3
 refine cd H4 (show (4:Nat)<11 by decide) rfl fun h5 G5=>?_
 have H5:aD (pt b (.cells #[b0,b1,b2,b3,b4,a5,a6,a7,a8,a9,a10] e (0,0))::F) h5:=G5
 clear G5 H4
 refine cd H5 (show (5:Nat)<11 by decide) rfl fun h6 G6=>?_
 have H6:aD (pt b (.cells #[b0,b1,b2,b3,b4,b5,a6,a7,a8,a9,a10] e (0,0))::F) h6:=G6
 clear G6 H5
 refine cd H6 (show (6:Nat)<11 by decide) rfl fun h7 G7=>?_
 have H7:aD (pt b (.cells #[b0,b1,b2,b3,b4,b5,b6,a7,a8,a9,a10] e (0,0))::F) h7:=G7
 clear G7 H6
 refine cd H7 (show (7:Nat)<11 by decide) rfl fun h8 G8=>?_
 have H8:aD (pt b (.cells #[b0,b1,b2,b3,b4,b5,b6,b7,a8,a9,a10] e (0,0))::F) h8:=G8
 clear G8 H7
 refine cd H8 (show (8:Nat)<11 by decide) rfl fun h9 G9=>?_
 have H9:aD (pt b (.cells #[b0,b1,b2,b3,b4,b5,b6,b7,b8,a9,a10] e (0,0))::F) h9:=G9
 clear G9 H8
 refine cd H9 (show (9:Nat)<11 by decide) rfl fun h10 G10=>?_
 have H10:aD (pt b (.cells #[b0,b1,b2,b3,b4,b5,b6,b7,b8,b9,a10] e (0,0))::F) h10:=G10
 clear G10 H9
 refine cd H10 (show (10:Nat)<11 by decide) rfl fun h11 G11=>?_
 have H11:aD (pt b (.cells #[b0,b1,b2,b3,b4,b5,b6,b7,b8,b9,b10] e (0,0))::F) h11:=G11
 clear G11 H10
 exact hK _ H11
set_option maxHeartbeats 2000000 in
theorem rf {room:Nat} {a:Option Addr} {l c:Nat} {acts:List lj} (h:Heap) (hroom:room<65536) (HA:kW h a acts) (hl:acts.length=l) (hm:l≤maxLen):aC prog 6 [.int .u16 (room:Int),.slice a l c] h (C5 h):=by
 apply Jb.ap
 unfold NY
 refine (Dh (EP h)).mono ?_
 rintro v h0 ⟨rfl,H0⟩
 rw [bE,az,aa,IntWalk.i64_in (room:Int) (by omega)]
 refine (xi (room:=room) H0 (by omega)).mono ?_
 rintro v h1 ⟨f,rfl,H1⟩
 refine ⟨some ⟨f,0,none⟩,0,rfl,?_⟩
 refine (DH (room:=room) H1 (by omega)).mono ?_
 rintro v h2 ⟨m,rfl,H2⟩
 refine ⟨some ⟨m,0,none⟩,0,rfl,?_⟩
 have W0:AF.FS.WF ⟨room,0,none,false,[],[]⟩:=Cu (by omega)
 generalize hA0:(⟨room,0,none,false,[],[]⟩:AF.FS)=A0 at *
 have hs0:A0.steps=0:=by rw [← hA0]
 have hf0:A0.files.length=0:=by rw [← hA0]; rfl
 have T:=AF.sf sS W0
 have g1:=T.2.1
 have g2:=T.2.2
 have loop:∀ (s t:Option Addr) (brk:Bool) (A:AF.FS) (hh:Heap),A.WF→A.steps≤20000→A.files.length≤20000→SI f m s t brk A 4096 [old h] hh→
   Nv (some ⟨f,0,none⟩) (some ⟨m,0,none⟩) a l (s,t,brk,(0:Int)) hh (C5 h):=by
  intro s t brk A hh W hst hfl HI;unfold Nv;refine aU.upto l (fun i (st:Option Addr×Option Addr×Bool×Int) h'=>st.2.2.2=(i:Int)∧i≤l∧i≤60∧∃ A:AF.FS,A.WF∧A.steps≤20000*(i+1)∧A.files.length≤20000*(i+1)∧SI f m st.1 st.2.1 st.2.2.1 A (4096+i) [old h] h') (fun st=>((l:Int) - st.2.2.2).toNat)
   (by rintro i st h' ⟨e,hi,_⟩; rw [e]; exact ⟨hi,by omega⟩) ⟨rfl,au _,au _,A,W,by omega,by omega,HI⟩ ?_ ?_
  rotate_left
  · rintro ⟨s,t,brk,j⟩ h4 again ⟨rfl,hi,_,A,W,_,_,HI⟩;dsimp only;rw [ae (by omega),aa];exact nX (HI.all.mv 2)
  rintro i ⟨s,t,brk,j⟩ h4 again hlt ⟨rfl,hi,h60,A,W,hst,hfl,HI⟩ hagain;dsimp only at HI ⊢;rw [af (show ((i:Int)<(l:Int)) by omega),ab]
  rcases Nat.lt_or_ge i 60 with h1c | h1c
  rotate_left
  · rw [ae (show ¬ ((i:Int)<60) by omega),aa];exact nX (HI.all.mv 2)
  rw [af (show ((i:Int)<60) by omega),ab];obtain ⟨y,hx⟩:∃ x,acts[i]? = some x:=⟨_,ah (by omega)⟩
  have hy:oZ h y:=(HA i _ hx).1;obtain ⟨Z,H4,toSI⟩:=HI.frame;refine (HA.old H4).at hl hx fun ba hba hc=>?_;refine ⟨_,hc 0 _ rfl,_,hc 1 _ rfl,_,hc 2 _ rfl,_,hc 3 _ rfl,_,hc 4 _ rfl,_,hc 5 _ rfl,_,hc 6 _ rfl,_,hc 7 _ rfl,_,hc 8 _ rfl,_,hc 9 _ rfl,_,hc 10 _ rfl,?_⟩;refine ⟨y.k,y.v,y.was.a,y.was.l,y.was.c,y.now.a,y.now.l,y.now.c,y.fs.k,y.fs.dir,y.fs.name,y.fs.b,y.fs.n,y.fs.turn,y.fs.pa,y.fs.pl,y.fs.pc,rfl,?_⟩;refine aQ H4 fun b0 h5 H5=>?_;refine M3 H5 fun h16 H16=>?_;have HB:aD (PY b0 y::old h::Z) h16:=H16;clear H5 H16;simp only [cZ];refine eU (v:=.int .i64 y.fs.k) HB rfl (eU (v:=.string y.fs.dir) HB rfl (eU (v:=.string y.fs.name) HB rfl (eU (v:=.string y.fs.b) HB rfl (eU (v:=.int .i64 y.fs.n) HB rfl (eU (v:=.int .u8 y.fs.turn) HB rfl (eU (v:=.slice y.fs.pa y.fs.pl y.fs.pc) HB rfl ?_))))));refine ⟨y.fs.k,y.fs.dir,y.fs.name,y.fs.b,y.fs.n,y.fs.turn,y.fs.pa,y.fs.pl,y.fs.pc,rfl,?_⟩;refine aQ HB fun b1 h17 H17=>?_;have H17':aD (pt b1 (.cells y.fs.arr 64 (0,0))::PY b0 y::old h::Z) h17:=H17;refine (DF (E0 H17' (hy.fs.old (H17'.mv 2))) (l:=1) rfl (by decide)).mono ?_;rintro v h18 ⟨rfl,z,rfl,hz⟩;rw [bE]
  cases z with
  | true=>exact nX (H17'.mv 2)
  | false=>
  rw [aa];have hL:=(hz rfl).2 y.fs (List.mem_singleton.2 rfl);have HP:aD (PY b0 y::old h::Z) h18:=H17'.drop;refine bJ (i:=2) HP rfl ?_;refine (xh (ps:=y.was.ps) (uf hy.was (HP.mv 1)) hy.was.len hy.was.small).mono ?_;rintro v h19 ⟨rfl,rfl⟩;rw [bE]
  cases hbw:pT y.was.ps with
  | true=>exact nX (HP.mv 1)
  | false=>
  rw [aa];refine bJ (i:=3) HP rfl ?_;refine (xh (ps:=y.now.ps) (uf hy.now (HP.mv 1)) hy.now.len hy.now.small).mono ?_;rintro v h20 ⟨rfl,rfl⟩;rw [bE]
  cases hbn:pT y.now.ps with
  | true=>exact nX (HP.mv 1)
  | false=>
  rw [aa];have HS:SI f m s t brk A (4096+i) [PY b0 y,old h] h20:=toSI _ _ HP;have go:wJ f m A (4096+i) i [PY b0 y,old h] again:=fun s' t' brk' A' h' W' G' HI'=>by
   have e1:=G'.1;have e2:=G'.2;exact hagain _ _ ⟨rfl,hlt,by omega,A',W',by omega,by omega,HI'.drop⟩
  have kin:(0≤y.k→y.k<4→brk=false)→wZ (some ⟨f,0,none⟩) (some ⟨m,0,none⟩) b0 (s,t,brk,(i:Int)) h20 again (C5 h):=fun hnb=>
   Cz W (by omega) (by omega) (by omega) (by omega) (by omega) hy hL hbw hbn hnb HS go
  refine d8 HP rfl ?_;by_cases hk4:y.k<4
  · rw [af hk4,ab];refine d8 HP rfl ?_;by_cases hk0:0≤y.k
    · rw [af (show y.k≥0 from hk0),ab]
      cases hb:brk with
      | true=>
        rw [ab,aH (by omega)];rw [hb] at HS;exact go s t true A _ W (AF.Gr.same _ A) HS.more
      | false=>
        rw [aa];rw [hb] at kin;exact kin fun _ _=>rfl
    · rw [ae (show ¬ y.k≥0 from hk0),aa];exact kin fun h _=>absurd h hk0
  · rw [ae hk4,aa];exact kin fun _ h=>absurd h hk4
 refine (yr (dir:=sS) W0 (by omega) (by decide) (H2.mv 1)).mono ?_
 rintro v h3 ⟨W',⟨b,D,N,ks,hks,hkl,rfl,iD,iN,H3⟩ | ⟨e,hks,e0,rfl,H3⟩⟩
 · refine ⟨some ⟨b,0,none⟩,0,rfl,?_⟩;refine (oq (dir:=sS) W0 W' (by omega) (by omega) (H3.mv 2)).mono ?_;rintro v h4 (⟨r,D2,N2,ks2,hks2,rfl,iD2,iN2,H4⟩ | ⟨e,hks2,_⟩)
   rotate_left
   · rw [hks] at hks2; cases hks2
   rw [hks] at hks2;cases hks2;have eD:=iD.uniq iD2;have eN:=iN.uniq iN2;subst eD eN;refine ⟨some ⟨r,0,none⟩,0,rfl,?_⟩;rw [show ((0:Int)!=0)=false from rfl,aa];have l1:=iD.len (by decide);have l2:=iN.len (by decide);exact loop _ _ false _ h4 W' (by omega) (by omega) (.inr ⟨rfl,b,r,⟨sS,D,N⟩,rfl,rfl,⟨iD.1,iN.1,iD.ok,iN.ok⟩,rfl,by dsimp only; omega,by dsimp only; omega,H4.ordT 5 [2,0,3,1,4]⟩)
 · refine ⟨none,(e:Int),rfl,?_⟩;refine (oq (dir:=sS) W0 W' (by omega) (by omega) (H3.mv 1)).mono ?_;rintro v h4 (⟨r,D2,N2,ks2,hks2,_⟩ | ⟨e2,hks2,_,rfl,H4⟩)
   · rw [hks] at hks2; cases hks2
   rw [hks] at hks2;cases hks2;refine ⟨none,(e:Int),rfl,?_⟩;rw [bne_self_eq_false,aa,bm e0];exact loop _ _ true _ h4 W' (by omega) (by omega) (.inl ⟨rfl,H4.ordT 3 [1,0,2]⟩)
end Go.Proofs.YtibdiikcigokjaaGreat
