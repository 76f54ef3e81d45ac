/- Calls whose outcome is known; the chapter's example. A rename over another file: wholly or not at all; what is safe stays. FsRenames,FsSafe: the walks. Slices of whole numbers that came in. No file system: what it answers. Structs and slices of structs that came in,read: the acts of a file system. Slices of acts that came in; how heavy they are. -/
import Derived.Test.YtmemjbiijclbdaaGreatMpFsD
import Derived.Test.YtmemjbiijclbdaaGreatMpFsB
import Derived.Deep.Slices
import Derived.ChangeSlices
import Derived.ChangeArms
import Derived.WideShapes
import Derived.ProofKit
import Derived.OpenShut
import Derived.ChangeOld
namespace Go.Proofs.YtmemjbiijclbdaaGreat
open Go.IntKind (wrap)
open Go.Proofs.Tryz (prog)
open List (getD_eq_getElem?_getD getElem?_map getElem?_take getElem?_of_mem drop_eq_getElem_cons take_succ_cons take_zero)
open Go Go.RowKit Go.MapKept
set_option linter.unusedVariables false
set_option linter.unusedSimpArgs false
abbrev dN:ByteArray:=⟨#[100]⟩
abbrev aN:ByteArray:=⟨#[97]⟩
abbrev tN:ByteArray:=⟨#[116]⟩
theorem BS {room:Nat} (hr:room≤1073741824):AF.FS.WF ⟨room,0,none,false,[],[]⟩:=
 ⟨hr,List.Pairwise.nil,by simp,List.Pairwise.nil,by simp,by simp,by simp⟩
section
variable {b:Nat} {A A':AF.FS} {e:Nat} {F:List aE} {h:Heap} {dir name:ByteArray}
abbrev ym (b:Nat) (A':AF.FS) (e:Nat) (F:List aE):Value→Heap→Prop:=fun v h'=>v=.int .i64 (e:Int)∧A'.WF∧aD (co b A'::F) h'
theorem Jt (he:A.mkdir dir=(A',e)) (W:A.WF) (hs:A.steps<1099511627776) (hd:dir.size<4611686018427387904) (H:aD (co b A::F) h):aC prog 65 [aI b,.string dir] h (ym b A' e F):=by
 have W2:=W.mkdir dir
 refine (rH W hs hd H).mono ?_
 rintro v h' ⟨rfl,H2⟩
 rw [he] at W2 H2 ⊢
 exact ⟨rfl,W2,H2⟩
theorem Js (he:A.create dir name=(A',e)) (W:A.WF) (hs:A.steps<1099511627776) (hd:dir.size<4611686018427387904) (hn:name.size<4611686018427387904) (H:aD (co b A::F) h):aC prog 66 [aI b,.string dir,.string name] h (ym b A' e F):=by
 have W2:=W.create dir name
 refine (rG W hs hd hn H).mono ?_
 rintro v h' ⟨rfl,H2⟩
 rw [he] at W2 H2 ⊢
 exact ⟨rfl,W2,H2⟩
theorem Jr {ba:Option Addr} {bl bc:Nat} {bs:List Nat} (he:A.append dir name bs=(A',e)) (W:A.WF) (hs:A.steps<1099511627776) (hd:dir.size<4611686018427387904) (hn:name.size<4611686018427387904)
  (hr:∀ h',aD F h'→dF h' ba (bs.map nv)) (h8:B8 bs) (hl:bs.length=bl) (hlb:bl<4611686018427387904) (H:aD (co b A::F) h):aC prog 67 [aI b,.string dir,.string name,.slice ba bl bc] h (ym b A' e F):=by
 have W2:=W.append dir name h8
 refine (rF W hs hd hn hr hl hlb H).mono ?_
 rintro v h' ⟨rfl,H2⟩
 rw [he] at W2 H2 ⊢
 exact ⟨rfl,W2,H2⟩
theorem Jq (he:A.sync dir name=(A',e)) (W:A.WF) (hs:A.steps<1099511627776) (hd:dir.size<4611686018427387904) (hn:name.size<4611686018427387904) (H:aD (co b A::F) h):aC prog 68 [aI b,.string dir,.string name] h (ym b A' e F):=by
 have W2:=W.sync dir name
 refine (rE W hs hd hn H).mono ?_
 rintro v h' ⟨rfl,H2⟩
 rw [he] at W2 H2 ⊢
 exact ⟨rfl,W2,H2⟩
theorem Jp (he:A.syncDir dir=(A',e)) (W:A.WF) (hs:A.steps<1099511627776) (hd:dir.size<4611686018427387904) (H:aD (co b A::F) h):aC prog 69 [aI b,.string dir] h (ym b A' e F):=by
 have W2:=W.syncDir dir
 refine (l7 W hs hd H).mono ?_
 rintro v h' ⟨rfl,H2⟩
 rw [he] at W2 H2 ⊢
 exact ⟨rfl,W2,H2⟩
theorem Jo {n:Int} (he:A.setFuse n=(A',e)) (W:A.WF) (hn:n≤9223372036854775807) (H:aD (co b A::F) h):aC prog 19 [aI b,.int .i64 n] h (ym b A' e F):=by
 have W2:=W.setFuse hn
 refine (wY H).mono ?_
 rintro v h' ⟨rfl,H2⟩
 rw [he] at W2 H2 ⊢
 exact ⟨rfl,W2,H2⟩
theorem Jn {k:ByteArray} (he:A.rename dir name k=(A',e)) (W:A.WF) (hs:A.steps<1099511627776) (hd:dir.size<4611686018427387904) (hn:name.size<4611686018427387904) (hk:k.size<4611686018427387904) (H:aD (co b A::F) h):aC prog 70 [aI b,.string dir,.string name,.string k] h (ym b A' e F):=by
 have W2:=W.rename dir name k
 refine (rD W hs hd hn hk H).mono ?_
 rintro v h' ⟨rfl,H2⟩
 rw [he] at W2 H2 ⊢
 exact ⟨rfl,W2,H2⟩
theorem yV {s:ByteArray} {K:Value→Heap→Prop} (H:aD F h) (hz:s.size≤maxLen) (hK:∀ a c h',aD (aL 5 1 a s.size c ((sb s).map nv)::F) h'→K (.slice a s.size c) h'):aX prog (Go.convert 9 31 (.string s)) h K:=
 ot (by kernel_rfl) Jx (by kernel_rfl) hz H fun b c h' H'=>hK _ c h' H'
end
namespace AF
def Jv (e n:List Nat):Nat→FS
 | 0=>⟨1048576,5,some 0,true,[⟨e,e.length⟩],[⟨dN,[(aN,0)],[(aN,0)],[]⟩]⟩
 | 1=>⟨1048576,6,some 0,true,[⟨e,e.length⟩,⟨[],0⟩],[⟨dN,[(aN,0),(tN,1)],[(aN,0)],[.create tN 1]⟩]⟩
 | 2=>⟨1048576,7,some 0,true,[⟨e,e.length⟩,⟨n,0⟩],[⟨dN,[(aN,0),(tN,1)],[(aN,0)],[.create tN 1]⟩]⟩
 | 3=>⟨1048576,8,some 0,true,[⟨e,e.length⟩,⟨n,n.length⟩],[⟨dN,[(aN,0),(tN,1)],[(aN,0)],[.create tN 1]⟩]⟩
 | 4=>⟨1048576,9,some 0,true,[⟨e,e.length⟩,⟨n,n.length⟩],[⟨dN,[(aN,1)],[(aN,0)],[.create tN 1,.rename tN aN]⟩]⟩
 | m+5=>⟨1048576,10,some m,false,[⟨e,e.length⟩,⟨n,n.length⟩],[⟨dN,[(aN,1)],[(aN,1)],[]⟩]⟩
end AF
namespace AF
end AF
theorem xo {s:ByteArray} (h:AF.right s=true):s.size≤32:=by
 unfold AF.right at h
 simp only [aw,decide_eq_true_eq] at h
 exact h.1.2
open Go Go.RowKit
open Go Go.RowKit Go.ChangeShapes Go.WideShapes Go.ChangeAt
def mU (P:Program) (fs:Array Field) (i:Nat) (d:TypeDesc→Bool):Bool:=
 match fs[i]? with
 | some f=>(f.offset==i&&P.cellsOf f.type==1)&&match P.underlying f.type with
   | some u=>d u
   | none=>false
 | none=>false
def sW:TypeDesc→Bool
 | .int .i64=>true
 | _=>false
def GW:TypeDesc→Bool
 | .int .u8=>true
 | _=>false
def vX:TypeDesc→Bool
 | .string=>true
 | _=>false
def BY (P:Program):TypeDesc→Bool
 | .slice e=>(match P.underlying e with
   | some u=>sW u
   | none=>false)&&P.cellsOf e==1
 | _=>false
def wA (P:Program) (t:TypeId):Bool:=
 match P.underlying t with
 | some (.struct fs)=>(fs.size==7&&P.cellsOf t==7)&&(mU P fs 0 sW&&(mU P fs 1 vX&&(mU P fs 2 vX&&(mU P fs 3 vX&&(mU P fs 4 sW&&(mU P fs 5 GW&&mU P fs 6 (BY P)))))))
 | _=>false
section
variable {H:Type} {enc:TypeId×Value→H} {P:Program} {w:World} {base:Nat} {spare:Nat→Bool} {held:Bool}
theorem n4 {u:TypeDesc} (h:sW u=true):u=.int .i64:=by
 unfold sW at h
 split at h
 · rfl
 · cases h
theorem Eo {u:TypeDesc} (h:GW u=true):u=.int .u8:=by
 unfold GW at h
 split at h
 · rfl
 · cases h
theorem q6 {u:TypeDesc} (h:vX u=true):u=.string:=by
 unfold vX at h
 split at h
 · rfl
 · cases h
theorem iE {fs:Array Field} {i n:Nat} {d:TypeDesc→Bool} {cs:List Value} {xs:List (DataW H×List MemPlace)} (hf:mU P fs i d=true) (hl:i<cs.length) (hx:i<xs.length)
  (hr:∀ (i:Nat) (f:Field),fs[i]? = some f→DataW.trod enc P w base spare held n f.type ((cs.drop f.offset).take (P.cellsOf f.type))=xs[i]?) :
  ∃ (t:TypeId) (u:TypeDesc) (y:DataW H×List MemPlace),P.underlying t=some u∧d u=true∧DataW.trod enc P w base spare held n t [cs[i]]=some y:=by
 unfold mU at hf
 cases hi:fs[i]? with
 | none=>rw [hi] at hf; cases hf
 | some f=>
   rw [hi] at hf;simp only [aw,beq_iff_eq] at hf;obtain ⟨⟨ho,hc⟩,hu⟩:=hf
   cases hu2:P.underlying f.type with
   | none=>rw [hu2] at hu; cases hu
   | some u=>
     rw [hu2] at hu;have:=hr i f hi;rw [ho,hc,drop_eq_getElem_cons hl,ah hx,take_succ_cons,take_zero] at this;exact ⟨f.type,u,xs[i],hu2,hu,this⟩
theorem zK {t e:TypeId} {n:Nat} {v:Value} {y:DataW H×List MemPlace} (ht:P.underlying t=some (.slice e)) (he:P.underlying e=some (.int .i64)) (hc:P.cellsOf e=1) (h:DataW.trod enc P w base spare held n t [v]=some y) :
  ∃ (a:Option Addr) (l c:Nat) (ps:List Int),v=.slice a l c∧dF w.heap a (ps.map iv)∧ps.length=l∧l≤c∧c≤maxLen:=by
 rcases open_ints ht he hc h with ⟨hcs,_⟩ | ⟨a,len,cap,zs,hcs,_,hl,hm,hz,_,hcell,_⟩
 · simp only [List.cons.injEq,and_true] at hcs;exact ⟨none,0,0,[],hcs,rfl,rfl,av _,au _⟩
 · simp only [List.cons.injEq,and_true] at hcs;have hzl:len≤zs.length:=by
    rw [hz];split <;> omega
   refine ⟨some a,len,cap,zs.take len,hcs,?_,by rw [aq]; omega,hl,hm⟩;intro j v hv;rw [getElem?_map,getElem?_take] at hv;split at hv
   · rename_i hj;have h2:=hcell j (by omega);rw [ah (by omega)] at hv;simp only [Option.map_some,Option.some.injEq] at hv;rw [dR,getD_eq_getElem?_getD,ah (by omega)] at h2;rw [h2,← hv]
     rfl
   · cases hv
structure lp where
 k:Int
 dir:ByteArray
 name:ByteArray
 b:ByteArray
 n:Int
 turn:Int
 pa:Option Addr
 pl:Nat
 pc:Nat
def lp.cells (x:lp):List Value:=[.int .i64 x.k,.string x.dir,.string x.name,.string x.b,.int .i64 x.n,.int .u8 x.turn,.slice x.pa x.pl x.pc]
structure ma (h:Heap) (x:lp):Prop where
 k : -9223372036854775808≤x.k∧x.k≤9223372036854775807
 n : -9223372036854775808≤x.n∧x.n≤9223372036854775807
 turn:0≤x.turn∧x.turn<256
 dir:x.dir.size≤maxLen
 name:x.name.size≤maxLen
 b:x.b.size≤maxLen
 picks:∃ ps:List Int,dF h x.pa (ps.map iv)∧ps.length=x.pl∧x.pl≤x.pc∧x.pc≤maxLen
theorem Cq {t:TypeId} {fuel:Nat} {cs:List Value} {x:DataW H×List MemPlace} (hA:wA P t=true) (h:DataW.trod enc P w base spare held fuel t cs=some x):∃ v:lp,cs=v.cells∧ma w.heap v:=by
 unfold wA at hA
 cases hu:P.underlying t with
 | none=>rw [hu] at hA; cases hA
 | some u=>
   rw [hu] at hA
   cases u with
   | struct fs=>
     simp only [aw,beq_iff_eq] at hA;obtain ⟨⟨hsz,hC⟩,f0,f1,f2,f3,f4,f5,f6⟩:=hA;obtain ⟨xs,n,_,_,hlen,hxl,hr⟩:=DataW.trod_struct hu h;rw [hC] at hlen;rw [hsz] at hxl;obtain ⟨t0,u0,y0,e0,d0,r0⟩:=iE f0 (by omega) (by omega) hr;obtain ⟨t1,u1,y1,e1,d1,r1⟩:=iE f1 (by omega) (by omega) hr;obtain ⟨t2,u2,y2,e2,d2,r2⟩:=iE f2 (by omega) (by omega) hr;obtain ⟨t3,u3,y3,e3,d3,r3⟩:=iE f3 (by omega) (by omega) hr;obtain ⟨t4,u4,y4,e4,d4,r4⟩:=iE f4 (by omega) (by omega) hr;obtain ⟨t5,u5,y5,e5,d5,r5⟩:=iE f5 (by omega) (by omega) hr;obtain ⟨t6,u6,y6,e6,d6,r6⟩:=iE f6 (by omega) (by omega) hr;rw [n4 d0] at e0;rw [q6 d1] at e1;rw [q6 d2] at e2;rw [q6 d3] at e3;rw [n4 d4] at e4;rw [Eo d5] at e5;obtain ⟨z0,c0,_,w0⟩:=DataW.trod_int e0 r0;obtain ⟨s1,c1,_,w1⟩:=DataW.trod_string e1 r1;obtain ⟨s2,c2,_,w2⟩:=DataW.trod_string e2 r2;obtain ⟨s3,c3,_,w3⟩:=DataW.trod_string e3 r3;obtain ⟨z4,c4,_,w4⟩:=DataW.trod_int e4 r4;obtain ⟨z5,c5,_,w5⟩:=DataW.trod_int e5 r5;have c6:∃ (a:Option Addr) (l c:Nat) (ps:List Int),cs[6]=.slice a l c∧dF w.heap a (ps.map iv)∧ps.length=l∧l≤c∧c≤maxLen:=by
      unfold BY at d6;split at d6
      · rename_i e;simp only [aw,beq_iff_eq] at d6;obtain ⟨d7,hc7⟩:=d6
        cases he:P.underlying e with
        | none=>rw [he] at d7; cases d7
        | some u7=>
          rw [he] at d7;rw [n4 d7] at he;exact zK e6 he hc7 r6
      · cases d6
     obtain ⟨a,l,c,ps,c6,hrd,hpl,hlc,hcm⟩:=c6;simp only [List.cons.injEq,and_true] at c0 c1 c2 c3 c4 c5;refine ⟨⟨z0,s1,s2,s3,z4,z5,a,l,c⟩,?_,?_⟩
     · apply List.ext_getElem
       · exact hlen
       · intro i h1 h2;have:i=0∨i=1∨i=2∨i=3∨i=4∨i=5∨i=6:=by omega
         rcases this with rfl | rfl | rfl | rfl | rfl | rfl | rfl
         · exact c0
         · exact c1
         · exact c2
         · exact c3
         · exact c4
         · exact c5
         · exact c6
     · simp only [Lit.wf,aw,decide_eq_true_eq] at w0 w4 w5;exact ⟨⟨w0.1,w0.2⟩,⟨w4.1,w4.2⟩,⟨w5.1,by have:=w5.2; exact Int.lt_of_le_of_lt this (by decide)⟩,w1,w2,w3,ps,hrd,hpl,hlc,hcm⟩
   | _=>cases hA
end
def uY (h:Heap) (a:Option Addr) (acts:List lp):Prop:=
 ∀ (i:Nat) (x:lp),acts[i]? = some x→ma h x∧∃ b,a=some b∧∀ (j:Nat) (v:Value),x.cells[j]? = some v→cz h (b.add (i*7+j))=some v
theorem wz {P:Program} {t:TypeId} (h:wA P t=true):P.cellsOf t=7:=by
 unfold wA at h
 split at h
 · simp only [aw,beq_iff_eq] at h;exact h.1.2
 · cases h
theorem uY.at {h:Heap} {a:Option Addr} {acts:List lp} {l i:Nat} {x:lp} {K:Addr→Prop} (H:uY h a acts) (hl:acts.length=l) (hi:acts[i]? = some x)
  (hK:∀ b,a=some b→(∀ (j:Nat) (v:Value),x.cells[j]? = some v→cz h ((b.add (i*7)).add j)=some v)→K (b.add (i*7))):aR a l (i:Int) 7 K:=by
 obtain ⟨_,b,hb,hc⟩:=H i x hi
 have:=(aj.1 hi).1
 refine ⟨b,hb,by omega,by omega,?_⟩
 rw [Int.toNat_natCast]
 exact hK b hb fun j v hj=>by rw [dC]; exact hc j v hj
structure wB (x:lp):Prop where
 b:x.b.size≤20000
 dir:x.dir.size≤100
 name:x.name.size≤100
 picks:x.pl≤20000
theorem Da {h:Heap} {a:Option Addr} {l c:Nat} {acts:List lp} (H:uY h a acts) (hl:acts.length=l) (hm:l≤maxLen) :
  aC prog 23 [.slice a l c] h fun v h'=>h'=h∧∃ z,v=.bool z∧(z=false→l≤20000∧∀ x∈acts,wB x):=by
 apply II.ap
 unfold Ni
 refine ⟨fun st hh=>hh=h∧∃ (n i:Nat),st=((n:Int),(i:Int))∧i≤l∧i≤n∧n≤20000∧∀ (j:Nat) (x:lp),j<i→acts[j]? = some x→wB x,fun st _=>((l:Int) - st.2).toNat,⟨rfl,0,0,rfl,au _,au _,au _,fun j x hj=>by omega⟩,?_⟩
 rintro st h1 ⟨rfl,n,i,rfl,hi,hin,hn,hlight⟩
 by_cases hlt:i<l
 · rw [af (show ((i:Int)<(l:Int)) by omega),ab];obtain ⟨x,hx⟩:∃ x,acts[i]? = some x:=⟨_,ah (by omega)⟩
   have ok:=(H i x hx).1;obtain ⟨ps,_,_,hpl,hpm⟩:=ok.picks;refine H.at hl hx fun b hb hc=>⟨_,hc 3 _ rfl,?_⟩
   show DS (.string x.b) _;rw [aW];refine H.at hl hx fun b hb hc=>⟨_,hc 6 _ rfl,?_⟩
   show aT (.slice x.pa x.pl x.pc) _;rw [aF];have m1:(if (20000:Int)<(x.b.size:Int) then 20000 else (x.b.size:Int))=((min x.b.size 20000:Nat):Int):=by split <;> omega
   have m2:(if (20000:Int)<(x.pl:Int) then 20000 else (x.pl:Int))=((min x.pl 20000:Nat):Int):=by split <;> omega
   have m3:wrap .i64 (wrap .i64 (wrap .i64 ((n:Int)+1)+((min x.b.size 20000:Nat):Int))+((min x.pl 20000:Nat):Int))=((n+1+min x.b.size 20000+min x.pl 20000:Nat):Int):=by
    rw [aK (by omega),← Int.natCast_add,dt (by omega),← Int.natCast_add,dt (by omega)]
   simp only [m1,m2,m3];by_cases hbig:n+1+min x.b.size 20000+min x.pl 20000>20000
   · rw [af (by omega),ab];exact ⟨by trivial,true,rfl,fun e=>by cases e⟩
   rw [ae (by omega),aa];refine H.at hl hx fun b hb hc=>⟨_,hc 1 _ rfl,?_⟩
   show DS (.string x.dir) _;rw [aW];by_cases hd:x.dir.size>100
   · rw [af (by omega),ab];exact ⟨by trivial,true,rfl,fun e=>by cases e⟩
   rw [ae (by omega),aa];refine H.at hl hx fun b hb hc=>⟨_,hc 2 _ rfl,?_⟩
   show DS (.string x.name) _;rw [aW];by_cases hnm:x.name.size>100
   · rw [af (by omega),ab];exact ⟨by trivial,true,rfl,fun e=>by cases e⟩
   rw [ae (by omega),aa];refine ⟨⟨by trivial,n+1+min x.b.size 20000+min x.pl 20000,i+1,?_,by omega,by omega,by omega,fun j y hj hy=>?_⟩,?_⟩
   · rw [aK (by have:maxLen=9223372036854775807:=by decide
                omega)]
   · by_cases hji:j=i
     · subst hji;rw [hx] at hy;cases hy;exact ⟨by omega,by omega,by omega,by omega⟩
     · exact hlight j y (by omega) hy
   · have hml:maxLen=9223372036854775807:=by decide
     show ((l:Int) - wrap .i64 ((i:Int)+1)).toNat<((l:Int) - (i:Int)).toNat;rw [aK (by omega)];omega
 · rw [ae (by omega),aa];have ei:i=l:=by omega
   refine ⟨by trivial,false,rfl,fun _=>⟨by omega,fun x hx=>?_⟩⟩;obtain ⟨j,hj⟩:=getElem?_of_mem hx;exact hlight j x (by have:=(aj.1 hj).1; omega) hj
end Go.Proofs.YtmemjbiijclbdaaGreat
