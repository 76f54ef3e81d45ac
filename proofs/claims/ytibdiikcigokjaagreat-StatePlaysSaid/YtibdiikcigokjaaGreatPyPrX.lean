/- StateSnaps (seat S). -/
import Derived.Test.YtibdiikcigokjaaGreatPyPkX
import Derived.Deep.Slices
import Derived.ChangeSlices
import Derived.ChangeArms
import Derived.ChangeSame
import Derived.WideShapes
import Derived.ProofKit
import Derived.OpenShut
import Derived.ChangeOld
import Derived.SizedLaws
namespace Go.Proofs.YtibdiikcigokjaaGreat
open List (drop_zero take_succ_cons take_zero any_eq_false drop_succ_cons)
open Go Go.RowKit Go.MapKept
set_option linter.unusedVariables false
set_option linter.unusedSimpArgs false
open AF (cI kZ ln dF fY)
open TS (Ch gk Diffs dL VT cD dG)
structure Fv where
 a:Option Addr
 l:Nat
 c:Nat
 ps:gX
def Fv.v (q:Fv):Value:=.slice q.a q.l q.c
structure HO (h:Heap) (q:Fv):Prop where
 rd:dw h q.a (q.ps.flatMap pairC)
 len:q.ps.length=q.l
 small:∀ p∈q.ps,p.1.size≤140737488355328∧p.2.size≤140737488355328
theorem HO.old {h h':Heap} {F:List aG} {q:Fv} (H:HO h q) (hs:aD (old h::F) h'):HO h' q:=⟨H.rd.old hs,H.len,H.small⟩
theorem kQ {ps:gX} (h:pT ps=false):ps.length≤60∧∀ p∈ps,p.1.size+p.2.size≤300:=by
 unfold pT at h
 simp only [Bool.or_eq_false_iff,decide_eq_false_iff_not,any_eq_false,decide_eq_true_eq] at h
 exact ⟨by omega,fun p hp=>by have:=h.2 p hp; omega⟩
open Go Go.RowKit Go.ChangeShapes Go.WideShapes Go.ChangeAt
def EM (P:Program) (t:TypeId):Bool:=match P.underlying t with
 | some .string=>true
 | _=>false
def uj (P:Program) (e:TypeId):Bool:=match P.underlying e with
 | some (.struct fs)=>(match fs.toList with
   | [f0,f1]=>(f0.offset==0&&f1.offset==1)&&((P.cellsOf f0.type==1&&P.cellsOf f1.type==1)&&((EM P f0.type&&EM P f1.type)&&P.cellsOf e==2))
   | _=>false)
 | _=>false
theorem yI {P:Program} {t:TypeId} (h:EM P t=true):P.underlying t=some .string:=by
 unfold EM at h
 split at h
 · assumption
 · cases h
theorem Ce {α:Type} {f:α→List Value} {sz:Nat} (hf:∀ x,(f x).length=sz) (hp:0<sz) {h:Heap} {a:Addr} {xs:List α} (hx:∀ (i:Nat) (x:α),xs[i]? = some x→∀ (j:Nat) (v:Value),(f x)[j]? = some v→ck h (a.add (i*sz+j))=some v):dw h (some a) (xs.flatMap f):=by
 intro k v hv
 have hk:=(aj.1 hv).1
 rw [iU hf] at hk
 have hi:k / sz<xs.length:=Nat.div_lt_of_lt_mul (by rw [Nat.mul_comm]; exact hk)
 have hj:k%sz<sz:=Nat.mod_lt _ hp
 have e:k / sz*sz+k%sz=k:=Nat.div_add_mod' k sz
 obtain ⟨x,hxx⟩:∃ x,xs[k / sz]? = some x:=⟨_,ah hi⟩
 have h1:=i3 hf hxx hj
 rw [e,hv] at h1
 have h2:=hx _ x hxx _ v h1.symm
 rwa [e] at h2
theorem ja {H:Type} {P:Program} {e:TypeId}:∀ {l:List (DataW H)} {d:DataW H},d∈l→∀ n∈d.weights P e,n∈DataW.weightsAll P e l
 | [],_,h,_,_=>by cases h
 | x::l,d,h,n,hn=>by
   unfold DataW.weightsAll
   rcases ay.1 h with rfl | h
   · exact List.mem_append.2 (.inl hn)
   · exact List.mem_append.2 (.inr (ja h n hn))
section
variable {H:Type} {enc:TypeId×Value→H} {P:Program} {w:World} {base:Nat} {spare:Nat→Bool} {held:Bool}
theorem zX {e:TypeId} {n:Nat} {cs:List Value} {d:DataW H} {pl:List MemPlace} (hA:uj P e=true) (h:DataW.trod enc P w base spare held n e cs=some (d,pl)) (hw:∀ n∈d.weights P e,n≤reachBytes) :
  ∃ s0 s1:ByteArray,cs=[.string s0,.string s1]∧s0.size≤140737488355328∧s1.size≤140737488355328:=by
 unfold uj at hA
 split at hA
 · rename_i fs hu;split at hA
   · rename_i f0 f1 hfs;simp only [aw,beq_iff_eq] at hA;obtain ⟨⟨o0,o1⟩,⟨c0,c1⟩,⟨s0,s1⟩,c2⟩:=hA;have e1:fs=#[f0,f1]:=Array.ext' (by simpa using hfs);subst e1;obtain ⟨y0,y1,m,hx,hl,h0,h1⟩:=trod_struct2 hu h;rw [o0,c0,drop_zero] at h0;rw [o1,c1] at h1;rw [c2] at hl
     match cs,hl with
     | [v0,v1],_=>
       obtain ⟨z0,e0,x0,_⟩:=DataW.trod_string (yI s0) h0;obtain ⟨z1,e1,x1,_⟩:=DataW.trod_string (yI s1) h1;simp only [take_succ_cons,take_zero,drop_succ_cons,drop_zero,List.cons.injEq,and_true] at e0 e1;subst e0 e1;have hd:d=.agg [y0.1,y1.1]:=congrArg Prod.fst hx;have w0:(z0.data.toList).length∈d.weights P e:=by
        rw [hd,x0,x1];simp [DataW.weights,hu,DataW.weightsEach]
       have w1:(z1.data.toList).length∈d.weights P e:=by
        rw [hd,x0,x1];simp [DataW.weights,hu,DataW.weightsEach]
       have r0:=hw _ w0;have r1:=hw _ w1;have e2:z0.data.toList.length=z0.size:=by rw [Array.length_toList]; rfl
       have e3:z1.data.toList.length=z1.size:=by rw [Array.length_toList]; rfl
       unfold reachBytes at r0 r1;exact ⟨z0,z1,rfl,by omega,by omega⟩
   · cases hA
 · cases hA
theorem Cj {t e:TypeId} {n:Nat} {v:Value} {d:DataW H} {pl:List MemPlace} (ht:P.underlying t=some (.slice e)) (hA:uj P e=true) (hc:P.cellsOf e=2) (h:DataW.trod enc P w base spare held n t [v]=some (d,pl)) (hw:∀ n∈d.weights P t,n≤reachBytes) :
  ∃ q:Fv,v=q.v∧HO w.heap q:=by
 rcases Go.Deep.open_slice ht h with ⟨hcs,_⟩ | ⟨a,len,cap,m,k,D,Pl,hcs,_,hl,_,hmm,hx,hel⟩
 · simp only [List.cons.injEq,and_true] at hcs;exact ⟨⟨none,0,0,[]⟩,hcs,rfl,rfl,by simp⟩
 · simp only [List.cons.injEq,and_true] at hcs;rw [hc] at hel;have hd:d=.slice ((List.range len).map D) ((List.range (m - len)).map fun j=>D (len+j)):=congrArg Prod.fst hx;have hlm:len≤m:=by rw [hmm]; split <;> omega
   have hwi:∀ i,i<len→∀ n∈(D i).weights P e,n≤reachBytes:=fun i hi n hn=>hw n (by
    rw [hd];simp only [DataW.weights,ht];refine aB _ (List.mem_append.2 (.inl (ja (List.mem_map.2 ⟨i,List.mem_range.2 hi,rfl⟩) n hn))))
   obtain ⟨ps,hpl,hp⟩:=lN (P:=fun i (p:ByteArray×ByteArray)=>(p.1.size≤140737488355328∧p.2.size≤140737488355328)∧∀ (j:Nat) (v:Value),(pairC p)[j]? = some v→ck w.heap (a.add (i*2+j))=some v) len fun i hi=>by
    obtain ⟨cs',h1,h2⟩:=hel i (by omega);obtain ⟨s0,s1,e1,z0,z1⟩:=zX hA h2 (hwi i hi);refine ⟨(s0,s1),⟨z0,z1⟩,fun j v hj=>?_⟩;obtain ⟨_,_,hcell⟩:=World.cells?_some h1;have hj2:j<2:=(aj.1 hj).1;have:=hcell j hj2;rw [e1,cY,cZ] at this;rw [this];exact hj
   refine ⟨⟨some a,len,cap,ps⟩,hcs,Ce (sz:=2) (fun _=>rfl) (by decide) fun i x hi=>(hp i x hi).2,hpl,fun p hpm=>?_⟩;obtain ⟨i,hi⟩:=List.mem_iff_getElem?.1 hpm;exact (hp i p hi).1
end
end Go.Proofs.YtibdiikcigokjaaGreat
