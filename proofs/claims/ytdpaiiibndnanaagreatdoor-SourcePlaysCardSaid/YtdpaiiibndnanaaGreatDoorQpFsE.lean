/- Calls whose outcome is known; the chapter's example. A rename over another file: wholly or not at all; what is safe stays. FsRenames,FsSafe: the walks. Slices of whole numbers that came in. No file system: what it answers. Structs and slices of structs that came in,read: the acts of a file system. Slices of acts that came in; how heavy they are. -/
import Derived.Test.YtdpaiiibndnanaaGreatDoorQpFsD
import Derived.Test.YtdpaiiibndnanaaGreatDoorQpFsB
import Derived.Deep.Slices
import Derived.ChangeSlices
import Derived.ChangeArms
import Derived.WideShapes
import Derived.ProofKit
import Derived.OpenShut
import Derived.ChangeOld
namespace Go.Proofs.YtdpaiiibndnanaaGreatDoor
open Go.IntKind (wrap)
open Go.Proofs.Tryz (prog)
open List (getD_eq_getElem?_getD getElem?_take getElem?_of_mem drop_eq_getElem_cons take_succ_cons take_zero)
open Go Go.RowKit Go.MapKept
set_option linter.unusedVariables false
set_option linter.unusedSimpArgs false
theorem yK {room:Nat} (hr:room≤1073741824):AF.FS.WF ⟨room,0,none,false,[],[]⟩:=
 ⟨hr,List.Pairwise.nil,by simp,List.Pairwise.nil,by simp,by simp,by simp⟩
section
variable {b:Nat} {A A':AF.FS} {e:Nat} {F:List aF} {h:Heap} {dir name:ByteArray}
theorem zf {s:ByteArray} {K:Value→Heap→Prop} (H:aG F h) (hz:s.size≤maxLen) (hK:∀ a c h',aG (aQ 5 1 a s.size c ((sb s).map nv)::F) h'→K (.slice a s.size c) h'):bB prog (Go.convert 9 30 (.string s)) h K:=
 pF (by kernel_rfl) Df (by kernel_rfl) hz H fun b c h' H'=>hK _ c h' H'
end
namespace AF
end AF
namespace AF
end AF
theorem uC {s:ByteArray} (h:AF.right s=true):s.size≤32:=by
 unfold AF.right at h
 simp only [ay,decide_eq_true_eq] at h
 exact h.1.2
open Go Go.RowKit
open Go Go.RowKit Go.ChangeShapes Go.WideShapes Go.ChangeAt
def ia (P:Program) (fs:Array Field) (i:Nat) (d:TypeDesc→Bool):Bool:=
 match fs[i]? with
 | some f=>(f.offset==i&&P.cellsOf f.type==1)&&match P.underlying f.type with
   | some u=>d u
   | none=>false
 | none=>false
def j1:TypeDesc→Bool
 | .int .i64=>true
 | _=>false
def Dz:TypeDesc→Bool
 | .int .u8=>true
 | _=>false
def tx:TypeDesc→Bool
 | .string=>true
 | _=>false
def yO (P:Program):TypeDesc→Bool
 | .slice e=>(match P.underlying e with
   | some u=>j1 u
   | none=>false)&&P.cellsOf e==1
 | _=>false
def tR (P:Program) (t:TypeId):Bool:=
 match P.underlying t with
 | some (.struct fs)=>(fs.size==7&&P.cellsOf t==7)&&(ia P fs 0 j1&&(ia P fs 1 tx&&(ia P fs 2 tx&&(ia P fs 3 tx&&(ia P fs 4 j1&&(ia P fs 5 Dz&&ia P fs 6 (yO P)))))))
 | _=>false
section
variable {H:Type} {enc:TypeId×Value→H} {P:Program} {w:World} {base:Nat} {spare:Nat→Bool} {held:Bool}
theorem km {u:TypeDesc} (h:j1 u=true):u=.int .i64:=by
 unfold j1 at h
 split at h
 · rfl
 · cases h
theorem AJ {u:TypeDesc} (h:Dz u=true):u=.int .u8:=by
 unfold Dz at h
 split at h
 · rfl
 · cases h
theorem pe {u:TypeDesc} (h:tx u=true):u=.string:=by
 unfold tx at h
 split at h
 · rfl
 · cases h
theorem gk {fs:Array Field} {i n:Nat} {d:TypeDesc→Bool} {cs:List Value} {xs:List (DataW H×List MemPlace)} (hf:ia P fs i d=true) (hl:i<cs.length) (hx:i<xs.length)
  (hr:∀ (i:Nat) (f:Field),fs[i]? = some f→DataW.trod enc P w base spare held n f.type ((cs.drop f.offset).take (P.cellsOf f.type))=xs[i]?) :
  ∃ (t:TypeId) (u:TypeDesc) (y:DataW H×List MemPlace),P.underlying t=some u∧d u=true∧DataW.trod enc P w base spare held n t [cs[i]]=some y:=by
 unfold ia at hf
 cases hi:fs[i]? with
 | none=>rw [hi] at hf; cases hf
 | some f=>
   rw [hi] at hf;simp only [ay,beq_iff_eq] at hf;obtain ⟨⟨ho,hc⟩,hu⟩:=hf
   cases hu2:P.underlying f.type with
   | none=>rw [hu2] at hu; cases hu
   | some u=>
     rw [hu2] at hu;have:=hr i f hi;rw [ho,hc,drop_eq_getElem_cons hl,ai hx,take_succ_cons,take_zero] at this;exact ⟨f.type,u,xs[i],hu2,hu,this⟩
theorem wO {t e:TypeId} {n:Nat} {v:Value} {y:DataW H×List MemPlace} (ht:P.underlying t=some (.slice e)) (he:P.underlying e=some (.int .i64)) (hc:P.cellsOf e=1) (h:DataW.trod enc P w base spare held n t [v]=some y) :
  ∃ (a:Option Addr) (l c:Nat) (ps:List Int),v=.slice a l c∧cv w.heap a (ps.map iv)∧ps.length=l∧l≤c∧c≤maxLen:=by
 rcases open_ints ht he hc h with ⟨hcs,_⟩ | ⟨a,len,cap,zs,hcs,_,hl,hm,hz,_,hcell,_⟩
 · simp only [List.cons.injEq,and_true] at hcs;exact ⟨none,0,0,[],hcs,rfl,rfl,ax _,aw _⟩
 · simp only [List.cons.injEq,and_true] at hcs;have hzl:len≤zs.length:=by
    rw [hz];split <;> omega
   refine ⟨some a,len,cap,zs.take len,hcs,?_,by rw [au]; omega,hl,hm⟩;intro j v hv;rw [List.getElem?_map,getElem?_take] at hv;split at hv
   · rename_i hj;have h2:=hcell j (by omega);rw [ai (by omega)] at hv;simp only [Option.map_some,Option.some.injEq] at hv;rw [dU,getD_eq_getElem?_getD,ai (by omega)] at h2;rw [h2,← hv]
     rfl
   · cases hv
structure kF where
 k:Int
 dir:ByteArray
 name:ByteArray
 b:ByteArray
 n:Int
 turn:Int
 pa:Option Addr
 pl:Nat
 pc:Nat
def kF.cells (x:kF):List Value:=[.int .i64 x.k,.string x.dir,.string x.name,.string x.b,.int .i64 x.n,.int .u8 x.turn,.slice x.pa x.pl x.pc]
structure kG (h:Heap) (x:kF):Prop where
 k : -9223372036854775808≤x.k∧x.k≤9223372036854775807
 n : -9223372036854775808≤x.n∧x.n≤9223372036854775807
 turn:0≤x.turn∧x.turn<256
 dir:x.dir.size≤maxLen
 name:x.name.size≤maxLen
 b:x.b.size≤maxLen
 picks:∃ ps:List Int,cv h x.pa (ps.map iv)∧ps.length=x.pl∧x.pl≤x.pc∧x.pc≤maxLen
theorem zh {t:TypeId} {fuel:Nat} {cs:List Value} {x:DataW H×List MemPlace} (hA:tR P t=true) (h:DataW.trod enc P w base spare held fuel t cs=some x):∃ v:kF,cs=v.cells∧kG w.heap v:=by
 unfold tR at hA
 cases hu:P.underlying t with
 | none=>rw [hu] at hA; cases hA
 | some u=>
   rw [hu] at hA
   cases u with
   | struct fs=>
     simp only [ay,beq_iff_eq] at hA;obtain ⟨⟨hsz,hC⟩,f0,f1,f2,f3,f4,f5,f6⟩:=hA;obtain ⟨xs,n,_,_,hlen,hxl,hr⟩:=DataW.trod_struct hu h;rw [hC] at hlen;rw [hsz] at hxl;obtain ⟨t0,u0,y0,e0,d0,r0⟩:=gk f0 (by omega) (by omega) hr;obtain ⟨t1,u1,y1,e1,d1,r1⟩:=gk f1 (by omega) (by omega) hr;obtain ⟨t2,u2,y2,e2,d2,r2⟩:=gk f2 (by omega) (by omega) hr;obtain ⟨t3,u3,y3,e3,d3,r3⟩:=gk f3 (by omega) (by omega) hr;obtain ⟨t4,u4,y4,e4,d4,r4⟩:=gk f4 (by omega) (by omega) hr;obtain ⟨t5,u5,y5,e5,d5,r5⟩:=gk f5 (by omega) (by omega) hr;obtain ⟨t6,u6,y6,e6,d6,r6⟩:=gk f6 (by omega) (by omega) hr;rw [km d0] at e0;rw [pe d1] at e1;rw [pe d2] at e2;rw [pe d3] at e3;rw [km d4] at e4;rw [AJ d5] at e5;obtain ⟨z0,c0,_,w0⟩:=DataW.trod_int e0 r0;obtain ⟨s1,c1,_,w1⟩:=DataW.trod_string e1 r1;obtain ⟨s2,c2,_,w2⟩:=DataW.trod_string e2 r2;obtain ⟨s3,c3,_,w3⟩:=DataW.trod_string e3 r3;obtain ⟨z4,c4,_,w4⟩:=DataW.trod_int e4 r4;obtain ⟨z5,c5,_,w5⟩:=DataW.trod_int e5 r5;have c6:∃ (a:Option Addr) (l c:Nat) (ps:List Int),cs[6]=.slice a l c∧cv w.heap a (ps.map iv)∧ps.length=l∧l≤c∧c≤maxLen:=by
      unfold yO at d6;split at d6
      · rename_i e;simp only [ay,beq_iff_eq] at d6;obtain ⟨d7,hc7⟩:=d6
        cases he:P.underlying e with
        | none=>rw [he] at d7; cases d7
        | some u7=>
          rw [he] at d7;rw [km d7] at he;exact wO e6 he hc7 r6
      · cases d6
     obtain ⟨a,l,c,ps,c6,hrd,hpl,hlc,hcm⟩:=c6;simp only [List.cons.injEq,and_true] at c0 c1 c2 c3 c4 c5;refine ⟨⟨z0,s1,s2,s3,z4,z5,a,l,c⟩,?_,?_⟩
     · apply List.ext_getElem
       · exact hlen
       · intro i h1 h2;have:i=0∨i=1∨i=2∨i=3∨i=4∨i=5∨i=6:=by omega
         rcases this with rfl | rfl | rfl | rfl | rfl | rfl | rfl
         · exact c0
         · exact c1
         · exact c2
         · exact c3
         · exact c4
         · exact c5
         · exact c6
     · simp only [Lit.wf,ay,decide_eq_true_eq] at w0 w4 w5;exact ⟨⟨w0.1,w0.2⟩,⟨w4.1,w4.2⟩,⟨w5.1,by have:=w5.2; exact Int.lt_of_le_of_lt this (by decide)⟩,w1,w2,w3,ps,hrd,hpl,hlc,hcm⟩
   | _=>cases hA
end
def sF (h:Heap) (a:Option Addr) (acts:List kF):Prop:=
 ∀ (i:Nat) (x:kF),acts[i]? = some x→kG h x∧∃ b,a=some b∧∀ (j:Nat) (v:Value),x.cells[j]? = some v→bI h (b.add (i*7+j))=some v
theorem tQ {P:Program} {t:TypeId} (h:tR P t=true):P.cellsOf t=7:=by
 unfold tR at h
 split at h
 · simp only [ay,beq_iff_eq] at h;exact h.1.2
 · cases h
theorem sF.at {h:Heap} {a:Option Addr} {acts:List kF} {l i:Nat} {x:kF} {K:Addr→Prop} (H:sF h a acts) (hl:acts.length=l) (hi:acts[i]? = some x)
  (hK:∀ b,a=some b→(∀ (j:Nat) (v:Value),x.cells[j]? = some v→bI h ((b.add (i*7)).add j)=some v)→K (b.add (i*7))):aO a l (i:Int) 7 K:=by
 obtain ⟨_,b,hb,hc⟩:=H i x hi
 have:=(ak.1 hi).1
 refine ⟨b,hb,by omega,by omega,?_⟩
 rw [Int.toNat_natCast]
 exact hK b hb fun j v hj=>by rw [bm]; exact hc j v hj
structure rn (x:kF):Prop where
 b:x.b.size≤20000
 dir:x.dir.size≤100
 name:x.name.size≤100
 picks:x.pl≤20000
theorem zU {h:Heap} {a:Option Addr} {l c:Nat} {acts:List kF} (H:sF h a acts) (hl:acts.length=l) (hm:l≤maxLen) :
  aE prog 24 [.slice a l c] h fun v h'=>h'=h∧∃ z,v=.bool z∧(z=false→l≤20000∧∀ x∈acts,rn x):=by
 apply EG.ap
 unfold Jg
 refine ⟨fun st hh=>hh=h∧∃ (n i:Nat),st=((n:Int),(i:Int))∧i≤l∧i≤n∧n≤20000∧∀ (j:Nat) (x:kF),j<i→acts[j]? = some x→rn x,fun st _=>((l:Int) - st.2).toNat,⟨rfl,0,0,rfl,aw _,aw _,aw _,fun j x hj=>by omega⟩,?_⟩
 rintro st h1 ⟨rfl,n,i,rfl,hi,hin,hn,hlight⟩
 by_cases hlt:i<l
 · rw [ah (show ((i:Int)<(l:Int)) by omega),ae];obtain ⟨x,hx⟩:∃ x,acts[i]? = some x:=⟨_,ai (by omega)⟩
   have ok:=(H i x hx).1;obtain ⟨ps,_,_,hpl,hpm⟩:=ok.picks;refine H.at hl hx fun b hb hc=>⟨_,hc 3 _ rfl,?_⟩
   show DS (.string x.b) _;rw [aT];refine H.at hl hx fun b hb hc=>⟨_,hc 6 _ rfl,?_⟩
   show aZ (.slice x.pa x.pl x.pc) _;rw [aI];have m1:(if (20000:Int)<(x.b.size:Int) then 20000 else (x.b.size:Int))=((min x.b.size 20000:Nat):Int):=by split <;> omega
   have m2:(if (20000:Int)<(x.pl:Int) then 20000 else (x.pl:Int))=((min x.pl 20000:Nat):Int):=by split <;> omega
   have m3:wrap .i64 (wrap .i64 (wrap .i64 ((n:Int)+1)+((min x.b.size 20000:Nat):Int))+((min x.pl 20000:Nat):Int))=((n+1+min x.b.size 20000+min x.pl 20000:Nat):Int):=by
    rw [aN (by omega),← Int.natCast_add,dh (by omega),← Int.natCast_add,dh (by omega)]
   simp only [m1,m2,m3];by_cases hbig:n+1+min x.b.size 20000+min x.pl 20000>20000
   · rw [ah (by omega),ae];exact ⟨by trivial,true,rfl,fun e=>by cases e⟩
   rw [af (by omega),ab];refine H.at hl hx fun b hb hc=>⟨_,hc 1 _ rfl,?_⟩
   show DS (.string x.dir) _;rw [aT];by_cases hd:x.dir.size>100
   · rw [ah (by omega),ae];exact ⟨by trivial,true,rfl,fun e=>by cases e⟩
   rw [af (by omega),ab];refine H.at hl hx fun b hb hc=>⟨_,hc 2 _ rfl,?_⟩
   show DS (.string x.name) _;rw [aT];by_cases hnm:x.name.size>100
   · rw [ah (by omega),ae];exact ⟨by trivial,true,rfl,fun e=>by cases e⟩
   rw [af (by omega),ab];refine ⟨⟨by trivial,n+1+min x.b.size 20000+min x.pl 20000,i+1,?_,by omega,by omega,by omega,fun j y hj hy=>?_⟩,?_⟩
   · rw [aN (by have:maxLen=9223372036854775807:=by decide
                omega)]
   · by_cases hji:j=i
     · subst hji;rw [hx] at hy;cases hy;exact ⟨by omega,by omega,by omega,by omega⟩
     · exact hlight j y (by omega) hy
   · have hml:maxLen=9223372036854775807:=by decide
     show ((l:Int) - wrap .i64 ((i:Int)+1)).toNat<((l:Int) - (i:Int)).toNat;rw [aN (by omega)];omega
 · rw [af (by omega),ab];have ei:i=l:=by omega
   refine ⟨by trivial,false,rfl,fun _=>⟨by omega,fun x hx=>?_⟩⟩;obtain ⟨j,hj⟩:=getElem?_of_mem hx;exact hlight j x (by have:=(ak.1 hj).1; omega) hj
end Go.Proofs.YtdpaiiibndnanaaGreatDoor
