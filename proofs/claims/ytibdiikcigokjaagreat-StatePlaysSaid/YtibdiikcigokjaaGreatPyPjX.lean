/- A store of whatever files: the plain answers (seat S). -/
import Derived.Test.YtibdiikcigokjaaGreatPyPhX
import Derived.Test.YtibdiikcigokjaaGreatPyPiX
namespace Go.Proofs.YtibdiikcigokjaaGreat
open Go.IntKind (wrap)
open Go.Proofs.Tryz (prog)
open List (mem_append length_drop append_assoc getElem?_map drop_zero getElem?_take pairwise_cons filter_cons pairwise_singleton map_cons append_nil length_nil mem_singleton sum_cons cons_append take_length mem_cons_self getElem_mem getElem?_cons_zero drop_succ_cons getElem?_cons_succ length_set set_set)
open Go Go.RowKit Go.MapKept
set_option linter.unusedVariables false
set_option linter.unusedSimpArgs false
open AF (cI kZ dF)
open TS (Ch gk Diffs dL VT)
def mK:List ByteArray→Bool
 | []=>true
 | [_]=>true
 | a::b::l=>dF a b&&mK (b::l)
theorem BL {a:ByteArray}:∀ {l:List ByteArray},mK (a::l)=true↔(∀ b,l.head? = some b→dF a b=true)∧mK l=true
 | []=>by simp [mK]
 | b::l=>by simp [mK]
theorem ku:∀ {l:List ByteArray},mK l=true↔l.Pairwise fun a b=>dF a b=true
 | []=>by simp [mK]
 | [a]=>by simp [mK]
 | a::b::l=>by
   have ih:=ku (l:=b::l);rw [BL,ih,pairwise_cons (a:=a) (l:=b::l)];constructor
   · rintro ⟨h1,h2⟩;have hab:=h1 b rfl;refine ⟨fun c hc=>?_,h2⟩
     rcases ay.1 hc with rfl | hc
     · exact hab
     · exact AF.bB hab ((List.pairwise_cons.1 h2).1 c hc)
   · rintro ⟨h1,h2⟩;refine ⟨fun c hc=>?_,h2⟩;simp only [List.head?_cons,Option.some.injEq] at hc;subst hc;exact h1 _ (mem_cons_self ..)
theorem BK {l:List ByteArray} {i:Nat} {a b:ByteArray} (ha:l[i]? = some a) (hb:l[i+1]? = some b):mK (l.take (i+2))=(mK (l.take (i+1))&&dF a b):=by
 have hi:=(aj.1 hb).1
 have e1:l.take (i+2)=l.take (i+1)++[b]:=by rw [ax,hb]; rfl
 have e2:l.take (i+1)=l.take i++[a]:=by rw [ax,ha]; rfl
 rw [Bool.eq_iff_iff,aw,ku,ku,e1,List.pairwise_append]
 constructor
 · rintro ⟨h1,_,h3⟩;exact ⟨h1,h3 a (by rw [e2]; simp) b (by simp)⟩
 · rintro ⟨h1,h2⟩;refine ⟨h1,pairwise_singleton _ _,fun x hx y hy=>?_⟩;rw [mem_singleton] at hy;subst hy;rw [e2] at hx h1
   rcases List.mem_append.1 hx with hx | hx
   · exact AF.bB ((List.pairwise_append.1 h1).2.2 x hx a (by simp)) h2
   · rw [mem_singleton] at hx;rw [hx];exact h2
theorem vb {l:List ByteArray} (h:mK l=true) (i:Nat):mK (l.take i)=true:=by
 rw [ku] at h ⊢
 exact h.sublist (List.take_sublist ..)
def jP (p:ByteArray×ByteArray):Option Ch:=match sb p.1 with
 | []=>none
 | c::k=>if c=43 then some (cn k,p.2,false) else if c=45 then (if p.2=.empty then some (cn k,.empty,true) else none) else none
def fI:gX→Option (List Ch)
 | []=>some []
 | p::l=>match jP p with
   | none=>none
   | some x=>match fI l with
     | none=>none
     | some d=>some (x::d)
def dv (ps:gX):Option (List Ch):=match fI ps with
 | none=>none
 | some d=>if mK (d.map fun x=>x.1)=true then some d else none
theorem oW:∀ {ps:gX} {d:List Ch} {i:Nat} {p:ByteArray×ByteArray},fI ps=some d→ps[i]? = some p→∃ x,jP p=some x∧d[i]? = some x
 | [],d,i,p,h,hp=>by cases hp
 | q::l,d,i,p,h,hp=>by
   unfold fI at h;split at h
   · cases h
   · rename_i x hx;split at h
     · cases h
     · rename_i e he;cases h
       cases i with
       | zero=>
         simp only [getElem?_cons_zero,Option.some.injEq] at hp;subst hp;exact ⟨x,hx,rfl⟩
       | succ i=>
         rw [getElem?_cons_succ] at hp ⊢;exact oW he hp
theorem nf:∀ {ps:gX} {i:Nat} {p:ByteArray×ByteArray},ps[i]? = some p→jP p=none→fI ps=none
 | [],i,p,hp,hn=>by cases hp
 | q::l,i,p,hp,hn=>by
   unfold fI
   cases i with
   | zero=>
     simp only [getElem?_cons_zero,Option.some.injEq] at hp;subst hp;rw [hn]
   | succ i=>
     rw [getElem?_cons_succ] at hp;split
     · rfl
     · rw [nf hp hn]
theorem lO {p:ByteArray×ByteArray} {x:Ch} (h:jP p=some x):∃ c,sb p.1=c::sb x.1∧x.2.1=p.2∧(c=43∧x.2.2=false∨c=45∧x.2.2=true∧p.2=.empty):=by
 have h8:=fx p.1
 unfold jP at h
 split at h
 · cases h
 · rename_i c k hk;have hk8:B8 k:=fun n hn=>h8 n (by rw [hk]; exact aB _ hn);split at h
   · rename_i hc;cases h;exact ⟨c,by rw [hk,bR hk8],rfl,.inl ⟨hc,rfl⟩⟩
   · split at h
     · rename_i hc;split at h
       · rename_i he;cases h;exact ⟨c,by rw [hk,bR hk8],he.symm,.inr ⟨hc,rfl,he⟩⟩
       · cases h
     · cases h
def gA (A:AF.FS) (dir name:ByteArray):Except Nat gX:=match A.get dir name with
 | .error e=>.error e
 | .ok bs=>match co bs with
   | none=>.error 181
   | some ps=>.ok ps
def gH (S:eT) (A:AF.FS) (at_:Int):Except Nat (Tb.T VT):=if at_=0 then .ok [] else match gA A S.dir (cI 110 at_) with
 | .error e=>.error e
 | .ok ps=>if mK (ps.map (·.1))=true then .ok ps else .error 181
def eR (S:eT) (A:AF.FS) (k:Int) (t:Tb.T VT):Except Nat (Tb.T VT):=match gA A S.dir (cI 100 k) with
 | .error e=>.error e
 | .ok ps=>match dv ps with
   | none=>.error 181
   | some d=>.ok (dL t d)
def iF (S:eT) (A:AF.FS):Nat→Int→Tb.T VT→Except Nat (Tb.T VT)
 | 0,_,t=>.ok t
 | n+1,k,t=>match eR S A (k+1) t with
   | .error e=>.error e
   | .ok u=>iF S A n (k+1) u
def AH (D:List (Int×Unit)) (at_ v:Int):Prop:=∀ k,at_<k→k≤v→(k,())∈D
open Classical in
noncomputable def iM (S:eT) (A:AF.FS) (v:Int):Except Nat (Tb.T VT):=if v<0∨1099511627776<v then .error 2 else
 if ¬ AH S.D (dI (S.N.map (·.1)) v) v then .error 180 else match gH S A (dI (S.N.map (·.1)) v) with
 | .error e=>.error e
 | .ok t=>iF S A (v - dI (S.N.map (·.1)) v).toNat (dI (S.N.map (·.1)) v) t
theorem j8 (x:List Nat):(cn x).size=x.length:=by
 unfold cn
 simp [ByteArray.size]
theorem ry {l r:List Nat} {p:ByteArray×ByteArray} (h:fR l=some (p,r)):p.1.size+p.2.size+r.length+2≤l.length:=by
 unfold fR at h
 split at h
 · cases h
 · rename_i a s hs;have h1:=ik hs;split at h
   · cases h
   · rename_i b t ht;have h2:=ik ht;cases h;have e1:(cn a).size=a.length:=j8 a;have e2:(cn b).size=b.length:=j8 b;dsimp only;omega
def dq (ps:gX):Nat:=(ps.map fun p=>p.1.size+p.2.size+2).sum
theorem lp:∀ (n:Nat) (l r:List Nat) (ps:gX),bK n l=some (ps,r)→dq ps+r.length≤l.length
 | 0,l,r,ps,h=>by
   cases h;simp [dq]
 | n+1,l,r,ps,h=>by
   unfold bK at h;split at h
   · cases h
   · rename_i p s hs;have h1:=ry hs;split at h
     · cases h
     · rename_i qs t ht;have h2:=lp n _ _ _ ht;cases h;unfold dq at h2 ⊢;rw [map_cons,sum_cons];omega
theorem qc {l:List Nat} {ps:gX} (h:co l=some ps):dq ps≤l.length∧dq ps≤16777216:=by
 unfold co at h
 split at h
 · cases h
 · rename_i n k hk;split at h
   · rename_i qs hq;have:=lp _ _ _ _ hq;split at h
     · cases h;simp only [length_nil,length_drop] at this;omega
     · cases h
   · cases h
theorem oP (ps:gX):2*ps.length≤dq ps:=by
 unfold dq
 induction ps with
 | nil=>exact av _
 | cons p l ih=>rw [map_cons,sum_cons,ao]; omega
theorem Aa {ps:gX} {p:ByteArray×ByteArray} (h:p∈ps):p.1.size+p.2.size+2≤dq ps:=by
 unfold dq
 induction ps with
 | nil=>cases h
 | cons q l ih=>
   rw [map_cons,sum_cons]
   rcases ay.1 h with rfl | h
   · omega
   · have:=ih h;omega
theorem fl {A:AF.FS} {dir name:ByteArray} {ps:gX} (h:gA A dir name=.ok ps):dq ps≤16777216:=by
 unfold gA at h
 split at h
 · cases h
 · split at h
   · cases h
   · rename_i hu;cases h;exact (qc hu).2
theorem sv (k x:ByteArray):∀ t:Tb.T VT,dq (Tb.set k x t)≤dq t+(k.size+x.size+2)
 | []=>by simp [dq,Tb.set]
 | p::t=>by
   have ih:=sv k x t;unfold Tb.set;unfold dq at ih ⊢;split
   · simp only [map_cons,sum_cons];omega
   · split
     · simp only [map_cons,sum_cons];omega
     · simp only [map_cons,sum_cons];omega
theorem Ab (k:ByteArray) (t:Tb.T VT):dq (Tb.del t k)≤dq t:=by
 unfold dq Tb.del
 induction t with
 | nil=>exact av _
 | cons p t ih=>
   rw [filter_cons];split
   · simp only [map_cons,sum_cons];omega
   · simp only [map_cons,sum_cons];omega
def yR (d:List Ch):Nat:=(d.map fun x=>x.1.size+x.2.1.size+2).sum
theorem sx:∀ (d:List Ch) (t:Tb.T VT),dq (dL t d)≤dq t+yR d
 | [],t=>Nat.le_add_right _ _
 | x::d,t=>by
   have e:dL t (x::d)=dL (if x.2.2=true then Tb.del t x.1 else Tb.set x.1 x.2.1 t) d:=rfl;rw [e];have ih:=sx d (if x.2.2=true then Tb.del t x.1 else Tb.set x.1 x.2.1 t);have h2:dq (if x.2.2=true then Tb.del t x.1 else Tb.set x.1 x.2.1 t)≤dq t+(x.1.size+x.2.1.size+2):=by
    split
    · have:=Ab x.1 t;omega
    · exact sv _ _ _
   unfold yR at ih ⊢;rw [map_cons,sum_cons];omega
theorem vT:∀ {ps:gX} {d:List Ch},fI ps=some d→yR d≤dq ps
 | [],d,h=>by cases h; exact av _
 | p::l,d,h=>by
   unfold fI at h;split at h
   · cases h
   · rename_i x hx;split at h
     · cases h
     · rename_i e he;cases h;have ih:=vT he;obtain ⟨c,h1,h2,_⟩:=lO hx;have h3:p.1.size=1+x.1.size:=by
        rw [← aW,← aW,h1,ao];omega
       unfold yR dq at ih ⊢;rw [map_cons,map_cons,sum_cons,sum_cons,h2];omega
theorem Av {S:eT} {A:AF.FS} {k:Int} {t u:Tb.T VT} (h:eR S A k t=.ok u) (U:Tb.Up t):Tb.Up u∧dq u≤dq t+16777216:=by
 unfold eR at h
 split at h
 · cases h
 · rename_i ps hps;split at h
   · cases h
   · rename_i d hd;cases h;refine ⟨TS.appL_up U _,?_⟩;have h1:=sx d t;unfold dv at hd;split at hd
     · cases hd
     · rename_i e he;split at hd
       · cases hd;have h2:=vT he;have h3:=fl hps;omega
       · cases hd
theorem wC {S:eT} {A:AF.FS} {k:Int} {u:Tb.T VT} (h:gH S A k=.ok u):Tb.Up u∧dq u≤16777216:=by
 unfold gH at h
 split at h
 · cases h;exact ⟨List.Pairwise.nil,au _⟩
 · split at h
   · cases h
   · rename_i ps hps;split at h
     · rename_i hu;cases h;exact ⟨List.pairwise_map.1 (ku.1 hu),fl hps⟩
     · cases h
theorem t7 {S:eT} {A:AF.FS}:∀ (n:Nat) (k:Int) (t u:Tb.T VT),iF S A n k t=.ok u→Tb.Up t→Tb.Up u∧dq u≤dq t+n*16777216
 | 0,k,t,u,h,U=>by
   cases h;exact ⟨U,by omega⟩
 | n+1,k,t,u,h,U=>by
   unfold iF at h;split at h
   · cases h
   · rename_i w hw;obtain ⟨U1,m1⟩:=Av hw U;obtain ⟨U2,m2⟩:=t7 n _ _ _ h U1;exact ⟨U2,by omega⟩
theorem fS {S:eT} {A:AF.FS} (n:Nat) (k:Int) (t:Tb.T VT):iF S A (n+1) k t=match eR S A (k+1) t with
 | .error e=>.error e
 | .ok u=>iF S A n (k+1) u:=rfl
theorem j2 {S:eT} {A:AF.FS}:∀ (m n:Nat) (k:Int) (t:Tb.T VT),iF S A (m+n) k t=match iF S A m k t with
  | .error e=>.error e
  | .ok u=>iF S A n (k+m) u
 | 0,n,k,t=>by
   rw [Nat.zero_add];simp [iF]
 | m+1,n,k,t=>by
   rw [show m+1+n=(m+n)+1 by omega,fS,fS]
   cases eR S A (k+1) t with
   | error e=>rfl
   | ok u=>
     simp only [];rw [j2 m n (k+1) u]
     cases iF S A m (k+1) u with
     | error e=>rfl
     | ok w=>
       simp only [];rw [show k+1+(m:Int)=k+((m+1:Nat):Int) by omega]
open AF (cI kZ ln dF)
open TS (Ch gk Diffs dL VT cD dG)
def Hy (s0 t0:Option Addr) (v0 at_0:Int) (h_4:Heap) (Q:Value→Heap→Prop):Prop:=
 aU (fun again3 (s4:Option Addr×Int) h_19=>
  (bif decide ((s4.2:Int)≤v0) then
   aC prog 36 [.string ⟨#[100]⟩,.int .i64 s4.2] h_19 fun r14 h_20=>
   DS r14 fun x14=>
   aC prog 35 [.pointer s0,.string x14] h_20 fun r15 h_21=>
   ∃ (x15a:Option Addr),∃ (x15l:Nat),∃ (x15c:Nat),∃ (x16:Int),r15=.tuple #[.slice x15a x15l x15c,.int .i64 x16]∧
   (bif (x16:Int)!=0 then
    Q (.tuple #[.pointer none,.int .i64 x16]) h_21
   else
    aC prog 40 [.slice x15a x15l x15c] h_21 fun r16 h_22=>
    ∃ (x17a:Option Addr),∃ (x17l:Nat),∃ (x17c:Nat),∃ (x18:Bool),r16=.tuple #[.slice x17a x17l x17c,.bool x18]∧
    (bif !x18 then
     Q (.tuple #[.pointer none,.int .i64 181]) h_22
    else
     aC prog 41 [.pointer s4.1,.slice x17a x17l x17c] h_22 fun r17 h_23=>
     DP r17 fun t2=>
     again3 (t2,wrap .i64 (s4.2+1)) h_23))
  else
   Q (.tuple #[.pointer s4.1,.int .i64 0]) h_19)) (t0,wrap .i64 (at_0+1)) h_4
theorem ql {V:Type} {k:ByteArray} {v:V}:∀ {l:Tb.T V},(∀ p∈l,dF p.1 k=true)→Tb.set k v l=l++[(k,v)]
 | [],_=>rfl
 | p::l,h=>by
   have h1:=h p (mem_cons_self ..);unfold Tb.set;rw [ak (Tb.pA h1),ak (fun h2=>AF.bp _ (AF.bB h1 h2)),ql (fun q hq=>h q (aB _ hq))]
   rfl
theorem qf {V:Type} {l:Tb.T V} (hu:Tb.Up l) {i:Nat} {p:ByteArray×V} (hp:l[i]? = some p):∀ q∈l.take i,dF q.1 p.1=true:=by
 intro q hq
 obtain ⟨j,hj⟩:=List.mem_iff_getElem?.1 hq
 rw [getElem?_take] at hj
 split at hj
 · rename_i hji;obtain ⟨b1,c1⟩:=aj.1 hj;obtain ⟨b2,c2⟩:=aj.1 hp;have:=List.pairwise_iff_getElem.1 hu j i b1 b2 hji;rw [c1,c2] at this;exact this
 · cases hj
theorem py (l:List Int) (v:Int) (hv:0≤v):0≤dI l v∧dI l v≤v∧(dI l v=0∨dI l v∈l)∧∀ x∈l,x≤v→x≤dI l v:=by
 unfold dI
 obtain ⟨h1,h2,h3⟩:=gS (l.filter fun n=>decide (n≤v)) 0
 refine ⟨by omega,?_,?_,fun x hx hxv=>h2 x (List.mem_filter.2 ⟨hx,by simpa using hxv⟩)⟩
 · rcases h3 with h3 | h3
   · omega
   · have:=(List.mem_filter.1 h3).2;simpa using this
 · rcases h3 with h3 | h3
   · exact .inl h3
   · exact .inr (List.mem_filter.1 h3).1
open AF (cI kZ ln fY dF)
open TS (Ch gk Diffs dL VT dG)
open Hex (cE hv uh dp gZ)
namespace Hex
theorem Hq:∀ (l:List Nat) (a v:Nat),uh l a=some v→v<(a+1)*16^l.length
 | [],a,v,h=>by cases h; simp
 | c::l,a,v,h=>by
   unfold uh at h
   cases hc:hv c with
   | none=>rw [hc] at h; cases h
   | some k=>
     rw [hc] at h;have h1:=Hq l _ v h;have hk:=yV hc;rw [ao,Nat.pow_succ];refine Nat.lt_of_lt_of_le h1 ?_;have e:(a+1)*(16^l.length*16)=(16*a+16)*16^l.length:=by rw [Nat.mul_comm (16^l.length) 16,← Nat.mul_assoc]; congr 1; omega
     rw [e];exact Nat.mul_le_mul_right _ (by omega)
theorem Fe {c k:Nat} (h:hv c=some k):gZ k=c:=by
 unfold hv at h
 unfold gZ
 split at h
 · cases h;rw [al (by omega)];omega
 · split at h
   · cases h;rw [ak (by omega)];omega
   · cases h
theorem BN:∀ (l:List Nat) (a v:Nat),uh l a=some v→l=cE l.length v
 | [],a,v,h=>rfl
 | c::l,a,v,h=>by
   unfold uh at h
   cases hc:hv c with
   | none=>rw [hc] at h; cases h
   | some k=>
     rw [hc] at h;have h1:=Hq l _ v h;have h2:=BO l _ v h;have hk:=yV hc;have ih:=BN l _ v h;rw [ao,cE,← ih];have e:v / 16^l.length=16*a+k:=by
      refine Nat.div_eq_of_lt_le ?_ ?_
      · exact h2
      · exact h1
     rw [e,show (16*a+k)%16=k by omega,Fe hc]
theorem rL {s:List Nat} {v:Nat} (h:dp s=some v):s=cE 16 v∧v<9223372036854775808:=by
 unfold dp at h
 split at h
 · rename_i hl;split at h
   · rename_i w hw;split at h
     · cases h;have:=BN _ _ _ hw;rw [hl] at this;rename_i hlt;exact ⟨this,hlt⟩
     · cases h
   · cases h
 · cases h
end Hex
namespace AF
theorem Fa {dir:ByteArray} {A:FS} (W:A.WF) {ks:List ByteArray} (h:A.list dir=.ok ks):ks.Pairwise fun a b=>dF a b=true:=by
 unfold FS.list at h
 cases hr:A.ready dir [] with
 | error e=>rw [hr] at h; cases h
 | ok i=>
   rw [hr] at h;obtain ⟨_,_,_,_,d,hd,_⟩:=dH hr;simp only [Except.ok.injEq] at h;rw [← h,jp hd];exact List.pairwise_map.2 (W.each d (ai hd)).ok.up
theorem yF {dir:ByteArray} {A:FS} (W:(A.tidy dir).1.WF) {ks:List ByteArray} (h:(A.tidy dir).2=.ok ks):ks.Pairwise fun a b=>dF a b=true:=by
 unfold FS.tidy at h W
 split at h
 · cases h
 · rename_i B n hc;rw [hc] at W;exact Fa W h
theorem EV {dir:ByteArray} {A:FS} (W:(A.prep dir).1.WF) {ks:List ByteArray} (h:(A.prep dir).2=.ok ks):ks.Pairwise fun a b=>dF a b=true:=by
 unfold FS.prep at h W
 split at h
 · rename_i hl;rw [hl] at W;simp only at W;split at h
   · rename_i hm;rw [al hm] at W;exact yF W h
   · cases h
 · rename_i hl;refine yF (A:=A) ?_ h;revert W;split
   · rename_i hl2;exact absurd hl2 (hl)
   · exact fun W=>W
end AF
section
variable {F:List aG} {h:Heap} {b fsb:Nat} {S:eT} {A:AF.FS} {a:Option Addr} {l c:Nat} {dir:ByteArray}
theorem zq {name:ByteArray} (W:A.WF) (hd:S.dir.size<4611686018427387904) (hn:name.size<4611686018427387904) (H:aD (dg b fsb S::cg fsb A::F) h) :
  aC prog 35 [aJ b,.string name] h fun v h'=>(∃ ps a c,gA A S.dir name=.ok ps∧v=.tuple #[.slice a ps.length c,.int .i64 0]∧aD (aL 50 2 a ps.length c (ps.flatMap pairC)::dg b fsb S::cg fsb A::F) h')∨
   (∃ e:Nat,gA A S.dir name=.error e∧e≠0∧v=.tuple #[.slice none 0 0,.int .i64 (e:Int)]∧aD (dg b fsb S::cg fsb A::F) h'):=by
 apply JC.ap
 unfold Oq
 rw [aY]
 obtain ⟨d,n,H2⟩:=gC H
 refine mu (x:=fsb) H2 rfl ?_
 rw [aY]
 refine bu (x:=S.dir) H2 rfl ?_
 refine (BE (name:=name) W hd hn (H2.mv 3)).mono ?_
 rintro v h1 (⟨bs,a,c,hg2,hb8,hbl,rfl,H3⟩ | ⟨e,hg2,e0,rfl,H3⟩)
 rotate_left
 · refine ⟨none,0,0,(e:Int),rfl,?_⟩;rw [bm e0,ab];refine .inr ⟨e,by unfold gA; rw [hg2],e0,rfl,?_⟩;exact (db (H3.ordT 4 [1,2,3,0]))
 refine ⟨a,bs.length,c,0,rfl,?_⟩
 rw [show ((0:Int)!=0)=false from rfl,aa]
 have hc:bs.length≤c:=by
  rcases (cV H3).2 with ⟨_,h0,_⟩ | ⟨_,_,_,_,h1,_⟩ <;> omega
 refine (Ez hb8 hc (by omega) (ER H3)).mono ?_
 rintro v h2 (⟨ps,a2,c2,hu,rfl,H4⟩ | ⟨hu,rfl,H4⟩)
 · refine ⟨a2,ps.length,c2,0,rfl,?_⟩;rw [show ((0:Int)!=0)=false from rfl,aa];exact .inl ⟨ps,a2,c2,by unfold gA; rw [hg2]; simp only []; rw [hu],rfl,(db (H4.ordT 5 [2,3,4,0,1])).ordT 3 [1,0,2]⟩
 · refine ⟨none,0,0,41,rfl,?_⟩;rw [show ((41:Int)!=0)=true from rfl,ab];exact .inr ⟨181,by unfold gA; rw [hg2]; simp only []; rw [hu],by decide,rfl,(db (H4.ordT 4 [1,2,3,0]))⟩
theorem zH {l:List ByteArray} {i:Nat} (h:mK (l.take i)=false):mK l=false:=by
 cases hh:mK l with
 | false=>rfl
 | true=>rw [vb hh i] at h; cases h
theorem tS (l:List ByteArray):mK (l.take 1)=true:=by
 cases l <;> rfl
theorem nn {l:List ByteArray} {i:Nat} {x y:ByteArray} (hi:1≤i) (hx:l[i - 1]? = some x) (hy:l[i]? = some y) (hu:mK (l.take i)=true):(dC x y=true→mK (l.take (i+1))=true)∧(dC x y=false→mK l=false):=by
 have e:=BK hx (show l[i - 1+1]? = some y by rw [show i - 1+1=i by omega]; exact hy)
 rw [show i - 1+2=i+1 by omega,show i - 1+1=i by omega,hu,Bool.true_and,← AF.gK] at e
 refine ⟨fun h1=>by rw [e,h1],fun h1=>zH (i:=i+1) (by rw [e,h1])⟩
theorem FQ {ps:gX} (hr:∀ h',aD F h'→dw h' a (ps.flatMap pairC)) (hl:ps.length=l) (hll:l<1000000000) (H:aD F h) :
  aC prog 37 [.slice a l c,.func (.func 38) #[] #[]] h fun v h'=>v=.bool (mK (ps.map (·.1)))∧aD F h':=by
 apply JA.ap
 unfold On
 refine aU.by (fun (s:Int) h'=>∃ i:Nat,s=(i:Int)∧1≤i∧i≤l+1∧mK ((ps.map (·.1)).take i)=true∧aD F h') (fun s=>l+1 - s.toNat) ⟨1,rfl,av _,by omega,tS _,H⟩ ?_
 rintro s h1 again ⟨i,rfl,hi1,hi2,hup,H1⟩ go
 by_cases hil:i<l
 · rw [af (show ((i:Int)<(l:Int)) by omega),ab];have e1:wrap .i64 ((i:Int) - 1)=((i - 1:Nat):Int):=by rw [IntWalk.i64_in _ (by omega)]; omega
   rw [e1];obtain ⟨⟨k1,x1⟩,hx1⟩:∃ x,ps[i - 1]? = some x:=⟨_,ah (by omega)⟩
   obtain ⟨⟨k2,x2⟩,hx2⟩:∃ x,ps[i]? = some x:=⟨_,ah (by omega)⟩
   refine ce (f:=pairC) (sz:=2) bX (by decide) (hr _ H1) hl hx1 fun b1 hb1 hc1=>?_;refine ⟨.string k1,hc1 0 _ rfl,.string x1,hc1 1 _ rfl,k1,x1,rfl,?_⟩;refine ce (f:=pairC) (sz:=2) bX (by decide) (hr _ H1) hl hx2 fun b2 hb2 hc2=>?_;refine ⟨.string k2,hc2 0 _ rfl,.string x2,hc2 1 _ rfl,k2,x2,rfl,?_⟩;refine dK ?_;refine (xd H1).mono ?_;rintro v h2 ⟨rfl,H2⟩;rw [aR];refine ⟨rfl,rfl,rfl,?_,?_,?_⟩
   · refine ce (f:=pairC) (sz:=2) bX (by decide) (hr _ H2) hl hx2 fun b3 hb3 hc3=>?_;rw [hb2] at hb3;cases hb3
     rfl
   · have hc3:=CY (f:=pairC) (sz:=2) bX (hb2▸hr _ H2) hx2;exact ⟨.string k2,hc3 0 _ rfl,.string x2,hc3 1 _ rfl,k2,x2,rfl,rfl⟩
   refine dK ?_;refine (xd H2).mono ?_;rintro v h3 ⟨rfl,H3⟩;rw [aR];obtain ⟨m1,m2⟩:=nn (l:=ps.map (·.1)) hi1 (by rw [getElem?_map,hx1]; rfl) (by rw [getElem?_map,hx2]; rfl) hup
   cases hlt:dC k1 k2 with
   | true=>
     rw [az,aa,aH (by omega)];exact go _ _ ⟨i+1,rfl,by omega,by omega,m1 hlt,H3⟩ (by omega)
   | false=>
     rw [aA,ab];exact ⟨by rw [m2 hlt],H3⟩
 · rw [ae (by omega),aa];rw [ar (by rw [an]; omega)] at hup;exact ⟨by rw [hup],H1⟩
theorem Ey {ps:List Ch} (hr:∀ h',aD F h'→dw h' a (ps.flatMap gk)) (hl:ps.length=l) (hll:l<1000000000) (H:aD F h) :
  aC prog 107 [.slice a l c,.func (.func 108) #[] #[]] h fun v h'=>v=.bool (mK (ps.map fun x=>x.1))∧aD F h':=by
 apply Hj.ap
 unfold ME
 refine aU.by (fun (s:Int) h'=>∃ i:Nat,s=(i:Int)∧1≤i∧i≤l+1∧mK ((ps.map fun x=>x.1).take i)=true∧aD F h') (fun s=>l+1 - s.toNat) ⟨1,rfl,av _,by omega,tS _,H⟩ ?_
 rintro s h1 again ⟨i,rfl,hi1,hi2,hup,H1⟩ go
 by_cases hil:i<l
 · rw [af (show ((i:Int)<(l:Int)) by omega),ab];have e1:wrap .i64 ((i:Int) - 1)=((i - 1:Nat):Int):=by rw [IntWalk.i64_in _ (by omega)]; omega
   rw [e1];obtain ⟨⟨k1,x1,g1⟩,hx1⟩:∃ x,ps[i - 1]? = some x:=⟨_,ah (by omega)⟩
   obtain ⟨⟨k2,x2,g2⟩,hx2⟩:∃ x,ps[i]? = some x:=⟨_,ah (by omega)⟩
   refine ce (f:=gk) (sz:=3) (fun _=>rfl) (by decide) (hr _ H1) hl hx1 fun b1 hb1 hc1=>?_;refine ⟨.string k1,hc1 0 _ rfl,.string x1,hc1 1 _ rfl,.bool g1,hc1 2 _ rfl,k1,x1,g1,rfl,?_⟩;refine ce (f:=gk) (sz:=3) (fun _=>rfl) (by decide) (hr _ H1) hl hx2 fun b2 hb2 hc2=>?_;refine ⟨.string k2,hc2 0 _ rfl,.string x2,hc2 1 _ rfl,.bool g2,hc2 2 _ rfl,k2,x2,g2,rfl,?_⟩;refine dK ?_;refine (tM H1).mono ?_;rintro v h2 ⟨rfl,H2⟩;rw [aR];refine ⟨rfl,rfl,rfl,?_,?_,?_⟩
   · refine ce (f:=gk) (sz:=3) (fun _=>rfl) (by decide) (hr _ H2) hl hx2 fun b3 hb3 hc3=>?_;rw [hb2] at hb3;cases hb3
     rfl
   · have hc3:=CY (f:=gk) (sz:=3) (fun _=>rfl) (hb2▸hr _ H2) hx2;exact ⟨.string k2,hc3 0 _ rfl,.string x2,hc3 1 _ rfl,.bool g2,hc3 2 _ rfl,k2,x2,g2,rfl,rfl⟩
   refine dK ?_;refine (tM H2).mono ?_;rintro v h3 ⟨rfl,H3⟩;rw [aR];obtain ⟨m1,m2⟩:=nn (l:=ps.map fun x=>x.1) hi1 (by rw [getElem?_map,hx1]; rfl) (by rw [getElem?_map,hx2]; rfl) hup
   cases hlt:dC k1 k2 with
   | true=>
     rw [az,aa,aH (by omega)];exact go _ _ ⟨i+1,rfl,by omega,by omega,m1 hlt,H3⟩ (by omega)
   | false=>
     rw [aA,ab];exact ⟨by rw [m2 hlt],H3⟩
 · rw [ae (by omega),aa];rw [ar (by rw [an]; omega)] at hup;exact ⟨by rw [hup],H1⟩
theorem Cx {P:Program} {t e:TypeId} {n:Nat} {h:Heap} {F:List aG} {K:Value→Heap→Prop} (ht:P.underlying t=some (.slice e)) (hi:EC P e) (hn:n≤1000000000) (H:aD F h)
  (hK:∀ a h',aD (aL e 3 (some a) n n ((List.replicate n wz).flatMap gk)::F) h'→K (.slice (some a) n n) h'):bi P (Instr.makeSlice t (.int .i64 (n:Int)) (.int .i64 (n:Int))) h K:=by
 obtain ⟨i,h1,h2,h3,h4⟩:=hi
 intro w hw
 subst hw
 have hr:=run_make (P:=P) w t e i _ ht h1 h2 .i64 .i64 (n:Int) (n:Int) (by omega) (Int.le_refl _) (by rw [h4]; omega) (by omega)
 rw [Int.toNat_natCast,h3] at hr
 refine ⟨_,_,hr,⟨rfl,rfl,rfl⟩,?_⟩
 refine hK _ _ ?_
 have H2:=H.push (.cells (madeCells (Value.cells (.agg #[.string .empty,.string .empty,.bool false])) (n*3)) e)
 refine eW H2 (by intro j hj; simp) (av _) (by unfold maxLen; omega) (by rw [size_madeCells]) ?_
 rw [ar (by simp [madeCells]),E7]
theorem m9:∀ {l:gX} {d:List Ch} {p:ByteArray×ByteArray} {x:Ch},fI l=some d→jP p=some x→fI (l++[p])=some (d++[x])
 | [],d,p,x,h,hp=>by
   cases h;simp [fI,hp]
 | q::l,d,p,x,h,hp=>by
   unfold fI at h;split at h
   · cases h
   · rename_i y hy;split at h
     · cases h
     · rename_i e he;cases h;rw [cons_append];unfold fI;rw [hy];simp only [];rw [m9 he hp]
       rfl
theorem mf {k:ByteArray} {n:Nat} {t:List Nat} (hk:sb k=n::t):bL k .empty=false∧(0:Int)<(k.size:Int)∧bt k 0=(n:Int)∧n<256∧ju k 1 (k.size:Int) fun s=>s=cn t:=by
 have hz:k.size=t.length+1:=by rw [← aW,hk]; rfl
 have h8:B8 (n::t):=hk▸fx k
 refine ⟨?_,by omega,iO (i:=0) (by rw [hk]; rfl),h8 n (mem_cons_self ..),by decide,by omega,Int.le_refl _,?_⟩
 · rw [gd,hk];exact ae (fun e=>by cases e)
 · rw [Int.toNat_natCast];refine gL ?_;rw [cN,hk,bR (fun x hx=>h8 x (aB _ hx))];show (t.take _)=t;rw [ar];show t.length≤k.size - (1:Int).toNat;rw [hz];exact av _
set_option maxHeartbeats 2000000 in
theorem FP {ps:gX} (hr:∀ h',aD F h'→dw h' a (ps.flatMap pairC)) (hl:ps.length=l) (hll:l≤100000000) (H:aD F h) :
  aC prog 40 [.slice a l c] h fun v h'=>(∃ d oa,dv ps=some d∧v=.tuple #[.slice (some oa) l l,.bool true]∧d.length=l∧aD (aL 103 3 (some oa) l l (d.flatMap gk)::F) h')∨
   (dv ps=none∧∃ sa sl sc,v=.tuple #[.slice sa sl sc,.bool false]∧aD F h'):=by
 apply Jx.ap
 unfold Oj
 refine Cx Tryz.underlying43 Az (by omega) H fun oa h1 H1=>?_
 rw [aF]
 refine aU.upto l (fun i (s:Int) h'=>s=(i:Int)∧i≤l∧∃ d,fI (ps.take i)=some d∧d.length=i∧aD (aL 103 3 (some oa) l l ((d++List.replicate (l - i) wz).flatMap gk)::F) h') (fun s=>l - s.toNat) (fun i s h' hh=>⟨hh.2.1,by rw [hh.1]; omega⟩)
  ⟨rfl,au _,[],rfl,rfl,by simpa using H1⟩ ?_ ?_
 · rintro i s h2 again hi ⟨rfl,_,d,hdc,hdl,H2⟩ go;rw [af (show ((i:Int)<(l:Int)) by omega),ab];obtain ⟨⟨k,x⟩,hx⟩:∃ x,ps[i]? = some x:=⟨_,ah (by omega)⟩
   refine ce (f:=pairC) (sz:=2) bX (by decide) (hr _ H2.drop) hl hx fun b1 hb1 hc1=>?_;have hrep:List.replicate (l - i) wz=wz::List.replicate (l - (i+1)) wz:=by
    rw [show l - i=(l - (i+1))+1 by omega,List.replicate_succ]
   have hget:(d++List.replicate (l - i) wz)[i]? = some wz:=by
    rw [List.getElem?_append_right (by omega),hdl,Nat.sub_self,hrep]
    rfl
   have hset:∀ y:Ch,(d++List.replicate (l - i) wz).set i y=d++[y]++List.replicate (l - (i+1)) wz:=fun y=>by
    rw [hrep,List.set_append_right _ _ (by omega),hdl,Nat.sub_self,append_assoc]
    rfl
   have htk:ps.take (i+1)=ps.take i++[(k,x)]:=by rw [ax,hx]; rfl
   have hlen3:(d++List.replicate (l - i) wz).length=l:=by rw [am,hdl,List.length_replicate]; omega
   have hw:wrap .i64 ((i:Int)+1)=((i+1:Nat):Int):=aH (by omega);have put:∀ {h':Heap} {b0:Nat} {e:Obj} {s:ByteArray} {y:ByteArray} {z:Bool},jP (k,x)=some (s,y,z)→aD (pt b0 e::aL 103 3 (some oa) l l ((d++List.replicate (l - i) wz).flatMap gk)::F) h'→
    aM (some oa) l (i:Int) 3 fun a1=>bI h' (a1.add 0) (.string s) fun h_7=>bI h_7 (a1.add 1) (.string y) fun h_8=>bI h_8 (a1.add 2) (.bool z) fun h_9=>again (wrap .i64 ((i:Int)+1)) h_9:=by
    intro h' b0 e s y z hch H';refine ce (f:=gk) (sz:=3) (fun _=>rfl) (by decide) (aI (H'.mv 1)) hlen3 hget fun b2 hb2 _=>?_;cases hb2;have hli:=(aj.1 hget).1;refine oK (f:=gk) (sz:=3) (x:=wz) (s,.empty,false) (fun _=>rfl) (H'.mv 1) hget (by decide) rfl fun h3 H3=>?_;refine oK (f:=gk) (sz:=3) (x:=(s,.empty,false)) (s,y,false) (fun _=>rfl) H3 (List.getElem?_set_self hli) (by decide) rfl fun h4 H4=>?_;refine oK (f:=gk) (sz:=3) (x:=(s,y,false)) (s,y,z) (fun _=>rfl) H4 (List.getElem?_set_self (by rw [length_set]; exact hli)) (by decide) rfl fun h5 H5=>?_;rw [set_set,set_set,hset] at H5;rw [hw];exact go _ _ ⟨rfl,by omega,d++[(s,y,z)],by rw [htk]; exact m9 hdc hch,by rw [am,hdl]; rfl,(H5.mv 1).drop⟩
   have bad:∀ {h':Heap} {b0:Nat} {e:Obj},jP (k,x)=none→aD (pt b0 e::aL 103 3 (some oa) l l ((d++List.replicate (l - i) wz).flatMap gk)::F) h'→
    ((∃ d oa,dv ps=some d∧Value.tuple #[.slice none 0 0,.bool false]=.tuple #[.slice (some oa) l l,.bool true]∧d.length=l∧aD (aL 103 3 (some oa) l l (d.flatMap gk)::F) h')∨
      (dv ps=none∧∃ sa sl sc,Value.tuple #[.slice none 0 0,.bool false]=.tuple #[.slice sa sl sc,.bool false]∧aD F h')):=by
    intro h' b0 e hch H';refine .inr ⟨?_,none,0,0,rfl,H'.drop.drop⟩;unfold dv;rw [nf hx hch]
   refine ⟨.string k,hc1 0 _ rfl,.string x,hc1 1 _ rfl,k,x,rfl,?_⟩;refine aQ H2 fun b0 h3 H3=>?_;refine cd H3 (show 0<2 by decide) rfl fun h4 H4=>?_;refine cd (i:=1) H4 (show 1<2 by decide) rfl fun h5 H5=>?_;have H6:aD (pt b0 (.cells #[.string k,.string x] 50 (0,0))::aL 103 3 (some oa) l l ((d++List.replicate (l - i) wz).flatMap gk)::F) h5:=H5;refine bu (x:=k) H6 rfl ?_
   cases hk:sb k with
   | nil=>
     have he:bL k .empty=true:=by rw [gd,hk]; exact af rfl
     rw [he,ab];exact bad (by unfold jP; simp only [hk]) H6
   | cons n t=>
     obtain ⟨hne,hpos,hbt,hn8,s1,s2,s3,s4⟩:=mf hk;rw [hne,aa];have hcut:ju k 1 (k.size:Int) fun s=>s=cn t:=⟨s1,s2,s3,s4⟩
     have hcut2:k.extract (1:Int).toNat ((k.size:Int)).toNat=cn t:=s4;refine bu (x:=k) H6 rfl ⟨by decide,hpos,?_⟩;rw [hbt];by_cases h43:n=43
     · subst h43;rw [show ((((43:Nat):Int))!=43)=false from rfl,aa];refine bu (x:=k) H6 rfl ⟨by decide,hpos,?_⟩;rw [hbt,show ((((43:Nat):Int))==45)=false from rfl,aa];refine bu (x:=k) H6 rfl ⟨s1,s2,s3,?_⟩;rw [hcut2];refine bu (i:=1) (x:=x) H6 rfl ?_;refine bu (x:=k) H6 rfl ⟨by decide,hpos,?_⟩;rw [hbt];exact put (by unfold jP; simp only [hk]; rfl) H6
     · rw [show (((n:Int))!=43)=true from by rw [bne_iff_ne]; omega,ab];refine bu (x:=k) H6 rfl ⟨by decide,hpos,?_⟩;rw [hbt];by_cases h45:n=45
       · subst h45;rw [show ((((45:Nat):Int))!=45)=false from rfl,aa];refine bu (x:=k) H6 rfl ⟨by decide,hpos,?_⟩;rw [hbt,show ((((45:Nat):Int))==45)=true from rfl,ab];refine bu (i:=1) (x:=x) H6 rfl ?_;by_cases hx0:x=.empty
         · subst hx0;rw [show bL .empty .empty=true from by rw [bO]; exact af rfl,az,aa];refine bu (x:=k) H6 rfl ⟨s1,s2,s3,?_⟩;rw [hcut2];refine bu (i:=1) (x:=.empty) H6 rfl ?_;refine bu (x:=k) H6 rfl ⟨by decide,hpos,?_⟩;rw [hbt];exact put (by unfold jP; simp only [hk]; rfl) H6
         · rw [show bL x .empty=false from by rw [bO]; exact ae hx0,aA,ab];exact bad (by unfold jP; simp only [hk]; simp [hx0]) H6
       · rw [show (((n:Int))!=45)=true from by rw [bne_iff_ne]; omega,ab];exact bad (by unfold jP; simp only [hk]; rw [ak h43,ak h45]) H6
 · rintro s h2 again ⟨rfl,_,d,hdc,hdl,H2⟩;rw [ae (by omega),aa];rw [Nat.sub_self,List.replicate_zero,append_nil] at H2;rw [ar (by omega)] at hdc;refine (Ey (F:=aL 103 3 (some oa) l l (d.flatMap gk)::F) (fun h' hh=>aI hh) hdl (by omega) H2).mono ?_;rintro v h3 ⟨rfl,H3⟩;rw [bE];have hch:dv ps=if mK (d.map fun x=>x.1)=true then some d else none:=by unfold dv; rw [hdc]
   cases hu:mK (d.map fun x=>x.1) with
   | true=>
     rw [hu,al rfl] at hch;exact .inl ⟨d,oa,hch,rfl,hdl,H3⟩
   | false=>
     rw [hu,ak (by decide)] at hch;exact .inr ⟨hch,_,_,_,rfl,H3.drop⟩
theorem fg.not {D:List (Int×Unit)} {cc:Nat} {ks:List ByteArray} {s:ByteArray} (hI:fg D cc ks) (hs:∀ v,nh v→cI cc v≠s):fg D cc (ks++[s]):=by
 refine ⟨hI.1,fun w=>?_⟩
 rw [hI.2,mem_append,mem_singleton]
 constructor
 · rintro ⟨h1,h2⟩;exact ⟨h1,.inl h2⟩
 · rintro ⟨h1,h2 | h2⟩
   · exact ⟨h1,h2⟩
   · exact absurd h2 (hs w h1)
theorem fg.uniq {D E:List (Int×Unit)} {cc:Nat} {ks:List ByteArray} (hD:fg D cc ks) (hE:fg E cc ks):D=E:=
 yG hD.1 hE.1 fun p=>by obtain ⟨v,⟨⟩⟩:=p; rw [hD.2,hE.2]
theorem KI {s:ByteArray} {n v:Nat} (h18:s.size=18) (h1:bt s 1=46) (hb:bt s 0=(n:Int)) (hu:Hex.dp (sb (s.extract 2 18))=some v):s=cI n (v:Int):=by
 obtain ⟨e1,e2⟩:=Hex.rL hu
 have hl:(sb s).length=18:=by rw [aW,h18]
 have h8:=fx s
 match hs:sb s,hl with
 | x0::x1::r,hl=>
   have a0:bt s 0=(x0:Int):=iO (i:=0) (by rw [hs]; rfl);have a1:bt s 1=(x1:Int):=iO (i:=1) (by rw [hs]; rfl);rw [cN,hs] at e1;simp only [drop_succ_cons,drop_zero] at e1;have hrl:r.length=16:=by simpa using hl
   rw [ar (by omega)] at e1;refine gL ?_;rw [mT (by have:=h8 x0 (by rw [hs]; exact mem_cons_self ..); omega),hs,ma (by omega),e1];congr 1
   · omega
   · congr 1;omega
end
open TS (Ch gk Diffs dL VT cD dG jd rA)
section
variable {F:List aG} {h:Heap} {b fsb:Nat} {S:eT} {A:AF.FS} {T:ln} {c:OO} {G:Int→Tb.T VT}
def vJ (b:Nat) (ps:gX):aG:=pS fun q:Option Addr×Nat=>dh [pt b (.cells #[.slice q.1 ps.length q.2] 41 (0,0)),aL 50 2 q.1 ps.length q.2 (ps.flatMap pairC)]
theorem oG {b:Nat} {ps:gX} (H:aD (vJ b ps::F) h):∃ a c,aD (pt b (.cells #[.slice a ps.length c] 41 (0,0))::aL 50 2 a ps.length c (ps.flatMap pairC)::F) h:=by
 obtain ⟨⟨a,c⟩,H2⟩:=bw.1 H
 exact ⟨a,c,H2.open⟩
theorem oF {b:Nat} {a:Option Addr} {c:Nat} {ps:gX} (H:aD (pt b (.cells #[.slice a ps.length c] 41 (0,0))::aL 50 2 a ps.length c (ps.flatMap pairC)::F) h):aD (vJ b ps::F) h:=
 bw.2 ⟨(a,c),aD.shut (m:=[_,_]) H⟩
end
open TS (Ch gk Diffs dL VT dG cD)
open Hex (cE dp)
structure mH (S:eT):Prop where
 upD:xr S.D
 upN:xr S.N
 okD:∀ p∈S.D,nh p.1
 okN:∀ p∈S.N,nh p.1
theorem fg.ok {D:List (Int×Unit)} {cc:Nat} {ks:List ByteArray} (h:fg D cc ks):∀ p∈D,nh p.1:=fun p hp=>((h.2 p.1).1 (by obtain ⟨v,⟨⟩⟩:=p; exact hp)).1
theorem fg.len {D:List (Int×Unit)} {cc:Nat} {ks:List ByteArray} (hc:cc<256) (h:fg D cc ks):D.length≤ks.length:=by
 have:=AF.oM (l:=D.map fun p=>cI cc p.1) (m:=ks) ?_ ?_
 · rwa [an] at this
 · refine List.pairwise_map.2 (h.1.imp_of_mem fun {p q} hp hq hlt e=>?_);have:=(nL cc cc (h.ok p hp) (h.ok q hq) e hc hc).2;omega
 · intro k hk;obtain ⟨p,hp,rfl⟩:=List.mem_map.1 hk;exact ((h.2 p.1).1 (by obtain ⟨v,⟨⟩⟩:=p; exact hp)).2
theorem mH.laid {S:eT} (h:mH S) {v:Int} (hv:nh v) (c:Nat):mH (gP S c v):=by
 unfold gP
 split
 · refine ⟨kv h.upD,h.upN,fun p hp=>?_,h.okN⟩
   rcases (ir h.upD).1 hp with rfl | hp
   · exact hv
   · exact h.okD p hp.2
 · refine ⟨h.upD,kv h.upN,h.okD,fun p hp=>?_⟩
   rcases (ir h.upN).1 hp with rfl | hp
   · exact hv
   · exact h.okN p hp.2
theorem wE {D:List (Int×Unit)} {at_ v:Int} (h:AH D at_ v):(v - at_).toNat≤D.length:=by
 have:=AF.oM (l:=(List.range (v - at_).toNat).map fun (i:Nat)=>at_+1+(i:Int)) (m:=D.map (·.1)) ?_ ?_
 · rwa [an,an,List.length_range] at this
 · refine List.pairwise_map.2 (List.nodup_range.imp fun {p q} hne e=>hne ?_);omega
 · intro k hk;obtain ⟨i,hi,rfl⟩:=List.mem_map.1 hk;have:=List.mem_range.1 hi;exact List.mem_map.2 ⟨_,h (at_+1+(i:Int)) (by omega) (by omega),rfl⟩
section
variable {F:List aG} {h:Heap} {b fsb:Nat} {S:eT} {A:AF.FS} {a:Option Addr} {l c:Nat} {dir:ByteArray}
def Lr (fsb:Nat) (dir:ByteArray) (r:AF.FS×Except Nat (List ByteArray)) (F:List aG) (v:Value) (h':Heap):Prop:=
 (∃ b D N ks,r.2=.ok ks∧ks.length≤4096∧v=.tuple #[aJ b,.int .i64 0]∧fg D 100 ks∧fg N 110 ks∧aD (dg b fsb ⟨dir,D,N⟩::cg fsb r.1::F) h')∨
 (∃ e:Nat,r.2=.error e∧e≠0∧v=.tuple #[.pointer none,.int .i64 (e:Int)]∧aD (cg fsb r.1::F) h')
set_option maxHeartbeats 2000000 in
theorem yr (W:A.WF) (hs:A.steps+20000<1099511627776) (hd:dir.size<4611686018427387904) (H:aD (cg fsb A::F) h) :
  aC prog 9 [aJ fsb,.string dir] h fun v h'=>(A.prep dir).1.WF∧Lr fsb dir (A.prep dir) F v h':=by
 apply Ls.ap
 unfold F9
 refine (Dx W hs hd H).mono ?_
 rintro v h5 ⟨W2,hs2,⟨ks,a,cc,hk',hright,hlen,rfl,H5⟩ | ⟨e,hk',e0,rfl,H5⟩⟩
 rotate_left
 · refine ⟨none,0,0,(e:Int),rfl,?_⟩;rw [bm e0,ab];exact ⟨W2,.inr ⟨e,hk',e0,rfl,H5⟩⟩
 refine ⟨a,ks.length,cc,0,rfl,?_⟩
 rw [show ((0:Int)!=0)=false from rfl,aa]
 refine aQ H5 fun b0 h6 H6=>?_
 refine aQ H6 fun b1 h7 H7=>?_
 refine aQ H7 fun b2 h8 H8=>?_
 have M1:=vh (R:=Bu) (H8.mv 1)
 have M2:=vh (R:=Bu) (M1.mv 2)
 generalize hB:(A.prep dir).1=B at *
 refine aU.upto ks.length (fun i (s0:Int) h'=>s0=(i:Int)∧i≤ks.length∧∃ D N,fg D 100 (ks.take i)∧fg N 110 (ks.take i)∧aD (gu Bu b0 D::gu Bu b1 N::pt b2 (.cells (nw fsb dir b0 b1) 86 (0,0))::aL 9 1 a ks.length cc (ks.map Value.string)::cg fsb B::F) h') (fun s0=>ks.length - s0.toNat) (fun i s0 h' hh=>⟨hh.2.1,by rw [hh.1]; omega⟩)
  ⟨rfl,au _,[],[],⟨List.Pairwise.nil,fun v=>by simp⟩,⟨List.Pairwise.nil,fun v=>by simp⟩,M2⟩ ?_ ?_
 · rintro i s0 h' again hi ⟨rfl,_,D,N,iD,iN,K⟩ go;rw [af (show ((i:Int)<(ks.length:Int)) by omega),ab];obtain ⟨s,hsi⟩:∃ s,ks[i]? = some s:=⟨_,ah hi⟩
   have htk:ks.take (i+1)=ks.take i++[s]:=by rw [ax,hsi]; rfl
   have hw:wrap .i64 ((i:Int)+1)=((i+1:Nat):Int):=aH (by omega);rw [hw];have skip:∀ {h':Heap},(∀ v,nh v→cI 100 v≠s)→(∀ v,nh v→cI 110 v≠s)→aD (gu Bu b0 D::gu Bu b1 N::pt b2 (.cells (nw fsb dir b0 b1) 86 (0,0))::aL 9 1 a ks.length cc (ks.map Value.string)::cg fsb B::F) h'→again ((i+1:Nat):Int) h':=fun h1 h2 K'=>
    go _ _ ⟨rfl,by omega,D,N,by rw [htk]; exact iD.not h1,by rw [htk]; exact iN.not h2,K'⟩
   refine eH (aI (K.mv 3)) rfl hsi fun bb hc=>?_;refine ⟨.string s,hc,s,rfl,?_⟩;dsimp only;by_cases h18:s.size=18
   rotate_left
   · rw [show ((((s.size:Int)))!=18)=true from by rw [bne_iff_ne]; omega,ab];exact skip (fun v _ e=>h18 (by rw [← e]; exact fL _ _)) (fun v _ e=>h18 (by rw [← e]; exact fL _ _)) K
   rw [show ((((s.size:Int)))!=18)=false from by rw [h18]; rfl,aa];refine ⟨by decide,by omega,?_⟩;by_cases h46:bt s 1=46
   rotate_left
   · rw [show ((bt s 1)!=46)=true from by rw [bne_iff_ne]; exact h46,ab];have b1':∀ (k:Nat) (v:Int),k<256→bt (cI k v) 1=46:=fun k v hk=>iO (i:=1) (n:=46) (by rw [mT hk]; rfl);exact skip (fun v _ e=>h46 (by rw [← e]; exact b1' 100 v (by decide))) (fun v _ e=>h46 (by rw [← e]; exact b1' 110 v (by decide))) K
   rw [show ((bt s 1)!=46)=false from by rw [h46]; rfl,aa];refine ⟨by decide,by omega,by omega,?_⟩;have e2:((2:Int)).toNat=2:=rfl;have e3:((s.size:Int)).toNat=18:=by rw [h18]; rfl
   rw [e2,e3];have hex:∀ (k:Nat) (v:Int),k<256→nh v→dp (sb ((cI k v).extract 2 18))=some (ff v):=fun k v hk hv=>by
    obtain ⟨hn1,hn2⟩:=i2 hv.id;have he:sb ((cI k v).extract 2 18)=cE 16 (ff v):=by
     rw [cN,mT hk,ar (by simp [Hex.eL])]
     rfl
    rw [he,Hex.qe (by omega),al hn2]
   refine (Dw (by rw [← aW,cN,aq]; omega) K).mono ?_;rintro r h12 ⟨rfl,K1⟩
   cases hu:dp (sb (s.extract 2 18)) with
   | none=>
     refine ⟨0,false,rfl,?_⟩;rw [aA,ab];exact skip (fun v hv e=>by rw [← e,hex 100 v (by decide) hv] at hu; cases hu) (fun v hv e=>by rw [← e,hex 110 v (by decide) hv] at hu; cases hu) K1
   | some n=>
     refine ⟨(n:Int),true,rfl,?_⟩;have out:¬ nh (n:Int)→again ((i+1:Nat):Int) h12:=fun hn=>by
      have hne:∀ k,k<256→∀ v,nh v→cI k v≠s:=fun k hk v hv e=>by
       rw [← e,hex k v hk hv] at hu;cases hu;rw [(i2 hv.id).1] at hn;exact hn hv
      exact skip (hne 100 (by decide)) (hne 110 (by decide)) K1
     rw [az,aa];by_cases h1:n<1
     · rw [af (show (n:Int)<1 by omega),ab];exact out (fun hh=>by have:=hh.1; omega)
     rw [ae (show ¬ (n:Int)<1 by omega),aa];by_cases h40:1099511627776<n
     · rw [af (show (n:Int)>1099511627776 by omega),ab];exact out (fun hh=>by have:=hh.2; omega)
     rw [ae (show ¬ (n:Int)>1099511627776 by omega),aa];refine ⟨by decide,by omega,?_⟩;have hv:nh (n:Int):=⟨by omega,by omega⟩
     obtain ⟨k,hk⟩:∃ k:Nat,bt s 0=(k:Int):=by
      obtain ⟨x,hx⟩:∃ x,(sb s)[0]? = some x:=⟨_,ah (by rw [aW]; omega)⟩
      exact ⟨x,iO hx⟩
     have hsk:s=cI k (n:Int):=KI h18 h46 hk hu;have hk8:k<256:=by
      have hl0:0<(sb s).length:=by rw [aW]; omega
      have e0:bt s 0=((sb s)[0]:Int):=iO (i:=0) (ah hl0);have:=fx s _ (getElem_mem hl0);omega
     rw [hk];have K2:=fM (S:=Bu () (.agg #[])) (fun h _=>rfl) (j4 K1);by_cases hk1:k=100
     · subst hk1;rw [show ((((100:Nat):Int))==100)=true from rfl,ab];refine rh (x:=b0) (K1.mv 2) rfl ?_;refine lZ (kt:=2) (et:=81) (x:=()) (by kernel_rfl) (by kernel_rfl) (K2.ordT 2 [1,0]) fun h13 K3=>?_;refine go _ _ ⟨rfl,by omega,_,N,?_,?_,K3⟩
       · rw [htk,hsk]; exact iD.add (by decide) hv
       · rw [htk,hsk]; exact iN.skip (by decide) (by decide) (by decide) hv
     rw [show ((k:Int)==100)=false from by rw [beq_eq_false_iff_ne]; omega,aa];by_cases hk2:k=110
     · subst hk2;rw [show ((((110:Nat):Int))==110)=true from rfl,ab];refine rh (x:=b1) (K1.mv 2) rfl ?_;refine lZ (kt:=2) (et:=81) (x:=()) (by kernel_rfl) (by kernel_rfl) (K2.ordT 3 [2,0,1]) fun h13 K3=>?_;refine go _ _ ⟨rfl,by omega,D,_,?_,?_,K3.ordT 2 [1,0]⟩
       · rw [htk,hsk]; exact iD.skip (by decide) (by decide) (by decide) hv
       · rw [htk,hsk]; exact iN.add (by decide) hv
     rw [show ((k:Int)==110)=false from by rw [beq_eq_false_iff_ne]; omega,aa];exact skip (fun v hv2 e=>hk1 (nL 100 k hv2 hv (by rw [e,hsk]) (by decide) hk8).1.symm) (fun v hv2 e=>hk2 (nL 110 k hv2 hv (by rw [e,hsk]) (by decide) hk8).1.symm) K1
 · rintro s0 h' again ⟨rfl,_,D,N,iD,iN,K⟩;rw [ae (by omega),aa];rw [take_length] at iD iN;refine ⟨W2,.inl ⟨b2,D,N,ks,hk',hlen,rfl,iD,iN,?_⟩⟩;rw [hB];exact db (S:=⟨dir,D,N⟩) (K.ordT 5 [2,0,1,4])
def zo (b fsb:Nat) (S:eT) (A:AF.FS) (res:Except Nat (Tb.T VT)) (F:List aG) (r:Value) (h':Heap):Prop:=
 (∃ u t,res=.ok u∧r=.tuple #[aJ t,.int .i64 0]∧aD (dG t u::dg b fsb S::cg fsb A::F) h')∨
 (∃ e:Nat,res=.error e∧e≠0∧r=.tuple #[.pointer none,.int .i64 (e:Int)]∧aD (dg b fsb S::cg fsb A::F) h')
theorem kF {ps:gX} (h:dq ps≤16777216):ps.length≤8388608:=by
 have:=oP ps
 omega
set_option maxHeartbeats 2000000 in
theorem sB {t:Nat} {v at_:Int} {u:Tb.T VT} (W:A.WF) (hd:S.dir.size<4611686018427387904) (h0:0≤at_) (hav:at_≤v) (hv:v≤1099511627776)
  (H:aD (dG t u::dg b fsb S::cg fsb A::F) h) {Q:Value→Heap→Prop} (hQ:∀ r h',zo b fsb S A (iF S A (v - at_).toNat at_ u) F r h'→Q r h'):Hy (some ⟨b,0,none⟩) (some ⟨t,0,none⟩) v at_ h Q:=by
 unfold Hy
 refine aU.by (fun (s:Option Addr×Int) h'=>∃ (t' n:Nat) (w:Tb.T VT),s=(some ⟨t',0,none⟩,at_+(n:Int)+1)∧n≤(v - at_).toNat∧iF S A n at_ u=.ok w∧aD (dG t' w::dg b fsb S::cg fsb A::F) h') (fun s=>(v+1 - s.2).toNat)
  ⟨t,0,u,by rw [IntWalk.i64_in _ (by omega)]; simp,au _,rfl,H⟩ ?_
 rintro s h1 again ⟨t',n,w,rfl,hn,hrun,H1⟩ go
 dsimp only
 by_cases hkv:at_+(n:Int)+1≤v
 · rw [af hkv,ab];have hmore:∀ e,eR S A (at_+(n:Int)+1) w=.error e→iF S A (v - at_).toNat at_ u=.error e:=fun e he=>by
    have e1:(v - at_).toNat=n+(((v - at_).toNat - n - 1)+1):=by omega
    rw [e1,j2,hrun];simp only [];rw [fS,he]
   refine (lV (c:=100) (n:=at_+(n:Int)+1) M6 rfl H1).mono ?_;rintro r h2 ⟨rfl,H2⟩;rw [aR];refine (zq (name:=cI 100 (at_+(n:Int)+1)) W hd (by rw [fL]; decide) (H2.ordT 3 [1,2,0])).mono ?_;rintro r h3 (⟨ps,pa,pc,hps,rfl,H3⟩ | ⟨e,hps,e0,rfl,H3⟩)
   rotate_left
   · refine ⟨none,0,0,(e:Int),rfl,?_⟩;rw [bm e0,ab];exact hQ _ _ (.inr ⟨e,hmore e (by unfold eR; rw [hps]),e0,rfl,H3.ordT 3 [0,1]⟩)
   refine ⟨pa,ps.length,pc,0,rfl,?_⟩;rw [show ((0:Int)!=0)=false from rfl,aa];have hpl:=kF (fl hps);refine (FP (F:=aL 50 2 pa ps.length pc (ps.flatMap pairC)::dg b fsb S::cg fsb A::dG t' w::F) (fun h' hh=>aI hh) rfl (by omega) H3).mono ?_;rintro r h4 (⟨d,oa,hd2,rfl,hdl,H4⟩ | ⟨hno,sa,sl,sc,rfl,H4⟩)
   rotate_left
   · refine ⟨sa,sl,sc,false,rfl,?_⟩;rw [aA,ab];exact hQ _ _ (.inr ⟨181,hmore 181 (by unfold eR; rw [hps]; simp only []; rw [hno]),by decide,rfl,H4.ordT 4 [1,2]⟩)
   refine ⟨some oa,ps.length,ps.length,true,rfl,?_⟩;rw [az,aa];have H5:=TS.tabZ_some (H4.mv 4);refine (TS.F41_spec (F:=aL 103 3 (some oa) ps.length ps.length (d.flatMap gk)::aL 50 2 pa ps.length pc (ps.flatMap pairC)::dg b fsb S::cg fsb A::F) (es:=d) (fun h' hh=>aI hh) hdl (by omega) H5).mono ?_;rintro r h5 ⟨t2,rfl,H6⟩;refine ⟨some ⟨t2,0,none⟩,rfl,?_⟩;have hw:wrap .i64 (at_+(n:Int)+1+1)=at_+((n+1:Nat):Int)+1:=by rw [IntWalk.i64_in _ (by omega)]; omega
   rw [hw];have hrun2:iF S A (n+1) at_ u=.ok (dL w d):=by
    rw [j2,hrun];simp only [];rw [fS];have:eR S A (at_+(n:Int)+1) w=.ok (dL w d):=by unfold eR; rw [hps]; simp only []; rw [hd2]
    rw [this]
    rfl
   exact go _ _ ⟨t2,n+1,_,rfl,by omega,hrun2,H6.ordT 6 [0,4,5]⟩ (by simp only; omega)
 · rw [ae hkv,aa];have e:n=(v - at_).toNat:=by omega
   rw [e] at hrun;exact hQ _ _ (.inl ⟨w,t',hrun,rfl,H1⟩)
set_option maxHeartbeats 2000000 in
theorem uM {v:Int} (O:mH S) (W:A.WF) (hd:S.dir.size<4611686018427387904) (H:aD (dg b fsb S::cg fsb A::F) h) :
  aC prog 8 [aJ b,.int .i64 v] h (zo b fsb S A (iM S A v) F):=by
 apply LA.ap
 unfold F8
 rw [show (some (⟨b,0,none⟩:Addr)).isNone=false from rfl,aa]
 unfold iM
 by_cases hv0:v<0
 · rw [af hv0,ab,al (.inl hv0)];exact .inr ⟨2,rfl,by decide,rfl,H⟩
 rw [ae hv0,aa]
 by_cases hv2:1099511627776<v
 · rw [af (show v>1099511627776 from hv2),ab,al (.inr hv2)];exact .inr ⟨2,rfl,by decide,rfl,H⟩
 rw [ae (show ¬ v>1099511627776 from hv2),aa,ak (by omega)]
 refine (xe (v:=v) H).mono ?_
 rintro r h1 ⟨rfl,H1⟩
 obtain ⟨n0,n1,n2,_⟩:=py (S.N.map (·.1)) v (by omega)
 generalize hat_:dI (S.N.map (·.1)) v=at_ at n0 n1 n2 ⊢
 rw [aK]
 refine aU.by (fun (s:Int) h'=>∃ k:Int,s=k+1∧at_≤k∧k≤v∧(∀ j,at_<j→j≤k→(j,())∈S.D)∧aD (dg b fsb S::cg fsb A::F) h') (fun s=>(v+1 - s).toNat)
  ⟨at_,by rw [IntWalk.i64_in _ (by omega)],Int.le_refl _,n1,fun j h1 h2=>by omega,H1⟩ ?_
 rintro s h2 again ⟨k,rfl,hk1,hk2,hall,H2⟩ go
 by_cases hkv:k+1≤v
 · rw [af hkv,ab,aY];obtain ⟨dm,nm,H3⟩:=gC H2;refine rh (x:=dm) H3 rfl ?_;obtain ⟨es,f,h3,h4,h5,h6⟩:=nt (H3.mv 1) (k+1);refine ⟨es,h3,f,h5,?_⟩
   rcases h6 with ⟨rfl,hg⟩ | ⟨j,x,y,rfl,hg,hB⟩
   · refine ⟨rfl,?_⟩;refine aQ H2 fun b0 h7 H7=>?_;rw [show (!(Option.isSome (none:Option (Nat×Value))))=true from rfl,ab];refine Or.inr ⟨180,?_,by decide,rfl,H7.drop⟩;rw [al];intro hh;have:=hh (k+1) (by omega) hkv;rw [kd O.upD this] at hg;cases hg
   · have hx:x=.agg #[]:=hB;subst hx;refine ⟨rfl,?_⟩;refine aQ H2 fun b0 h7 H7=>?_;rw [show (!(Option.isSome (some (j,Value.agg #[]))))=false from rfl,aa];have hw:wrap .i64 (k+1+1)=k+1+1:=IntWalk.i64_in _ (by omega);rw [hw];refine go _ _ ⟨k+1,rfl,by omega,hkv,fun j h1 h2=>?_,H7.drop⟩ (by omega);by_cases e:j=k+1
     · rw [e]; exact lF hg
     · exact hall j h1 (by omega)
 · rw [ae hkv,aa];have e:k=v:=by omega
   subst e;have hallD:AH S.D at_ k:=hall;rw [ak (not_not_intro hallD)];refine (TS.F34_none H2).mono ?_;rintro r h3 ⟨t,rfl,H3⟩;refine ⟨some ⟨t,0,none⟩,rfl,?_⟩;dsimp only;by_cases hat:at_=0
   · subst hat;rw [show (decide ((0:Int)>0))=false from rfl,aa];have eb:gH S A 0=.ok []:=al rfl;rw [eb];exact sB W hd n0 n1 (by omega) H3 (Q:=zo b fsb S A (iF S A (k - 0).toNat 0 []) F) fun r h' H'=>H'
   · rw [af (show at_>0 by omega),ab];refine (lV (c:=110) (n:=at_) M5 rfl H3).mono ?_;rintro r h4 ⟨rfl,H4⟩;rw [aR];refine (zq (name:=cI 110 at_) W hd (by rw [fL]; decide) (H4.ordT 3 [1,2,0])).mono ?_;rintro r h5 (⟨ps,pa,pc,hps,rfl,H5⟩ | ⟨e,hps,e0,rfl,H5⟩)
     rotate_left
     · refine ⟨none,0,0,(e:Int),rfl,?_⟩;rw [bm e0,ab];have eb:gH S A at_=.error e:=by unfold gH; rw [ak hat,hps]
       rw [eb];exact .inr ⟨e,rfl,e0,rfl,H5.ordT 3 [0,1]⟩
     refine ⟨pa,ps.length,pc,0,rfl,?_⟩;rw [show ((0:Int)!=0)=false from rfl,aa];have hpl:=kF (fl hps);refine (FQ (F:=aL 50 2 pa ps.length pc (ps.flatMap pairC)::dg b fsb S::cg fsb A::dG t []::F) (ps:=ps) (fun h' hh=>aI hh) rfl (by omega) H5).mono ?_;rintro r h6 ⟨rfl,H6⟩;rw [bE]
     cases hup:mK (ps.map (·.1)) with
     | false=>
       rw [aA,ab];have eb:gH S A at_=.error 181:=by unfold gH; rw [ak hat,hps]; simp only []; rw [hup]; rfl
       rw [eb];exact .inr ⟨181,rfl,by decide,rfl,H6.ordT 4 [1,2]⟩
     | true=>
       rw [az,aa];have eb:gH S A at_=.ok ps:=by unfold gH; rw [ak hat,hps]; simp only []; rw [hup]; rfl
       rw [eb];have hUp:Tb.Up ps:=List.pairwise_map.1 (ku.1 hup);refine aU.upto ps.length (fun i (s:Int) h'=>s=(i:Int)∧i≤ps.length∧aD (dG t (ps.take i)::aL 50 2 pa ps.length pc (ps.flatMap pairC)::dg b fsb S::cg fsb A::F) h') (fun s=>ps.length - s.toNat) (fun i s h' hh=>⟨hh.2.1,by rw [hh.1]; omega⟩)
        ⟨rfl,au _,H6.ordT 4 [3,0,1,2]⟩ ?_ ?_
       · rintro i s h7 again1 hi ⟨rfl,_,H7⟩ go1;rw [af (show ((i:Int)<(ps.length:Int)) by omega),ab];obtain ⟨⟨kk,xx⟩,hx⟩:∃ x,ps[i]? = some x:=⟨_,ah hi⟩
         refine ce (f:=pairC) (sz:=2) bX (by decide) (aI (H7.mv 1)) rfl hx fun b1 hb1 hc1=>?_;refine ⟨.string kk,hc1 0 _ rfl,.string xx,hc1 1 _ rfl,kk,xx,rfl,?_⟩;refine aQ H7 fun b0 h8 H8=>?_;refine cd H8 (show 0<2 by decide) rfl fun h9 H9=>?_;refine cd (i:=1) H9 (show 1<2 by decide) rfl fun h10 H10=>?_;have H11:aD (pt b0 (.cells #[.string kk,.string xx] 50 (0,0))::dG t (ps.take i)::aL 50 2 pa ps.length pc (ps.flatMap pairC)::dg b fsb S::cg fsb A::F) h10:=H10;refine bu (x:=kk) H11 rfl ?_;refine bu (i:=1) (x:=xx) H11 rfl ?_;refine (TS.F39_spec (key:=kk) (x:=xx) (H11.mv 1)).mono ?_;rintro r h12 ⟨rfl,H12⟩;refine ⟨rfl,?_⟩;rw [aH (by omega)];refine go1 _ _ ⟨rfl,by omega,?_⟩;have e2:Tb.set kk xx (ps.take i)=ps.take (i+1):=by
          rw [ql (qf hUp hx),ax,hx]
          rfl
         rw [e2] at H12;exact H12.ordT 5 [0,2,3,4]
       · rintro s h7 again1 ⟨rfl,_,H7⟩;rw [ae (by omega),aa];rw [take_length] at H7;exact sB W hd n0 n1 (by omega) (H7.ordT 4 [0,2,3]) (Q:=zo b fsb S A (iF S A (k - at_).toNat at_ ps) F) fun r h' H'=>H'
theorem Cy {v:Int} {u:Tb.T VT} (h:iM S A v=.ok u):Tb.Up u∧dq u≤(S.D.length+1)*16777216:=by
 unfold iM at h
 split at h
 · cases h
 · split at h
   · cases h
   · rename_i hall;have hall:=Classical.not_not.1 hall;split at h
     · cases h
     · rename_i t ht;obtain ⟨U,m⟩:=wC ht;obtain ⟨U2,m2⟩:=t7 _ _ _ _ h U;have:=wE hall;refine ⟨U2,Nat.le_trans m2 ?_⟩;rw [Nat.add_mul,Nat.one_mul,Nat.add_comm];exact Nat.add_le_add (Nat.mul_le_mul_right _ this) m
end
end Go.Proofs.YtibdiikcigokjaaGreat
