/- Helpers out of the texts of seat S (pick.py). -/
import Derived.Test.YtmemjbiijclbdaaGreatMpMdX
import Derived.Test.YtmemjbiijclbdaaGreatMpUxX
import Derived.Test.YtmemjbiijclbdaaGreatMpPzX
import Derived.Test.YtmemjbiijclbdaaGreatMpMeX
namespace Go.Proofs.YtmemjbiijclbdaaGreat
open Go.Proofs.Tryz (prog)
open List (foldl_append getD_eq_getElem?_getD length_drop append_assoc take_append_drop map_append getElem?_map drop_zero pairwise_cons filter_cons pairwise_singleton map_cons filter_sublist flatMap_cons append_nil length_nil sum_cons map_map sum_append map_nil nil_append cons_append drop_eq_getElem_cons take_length mem_cons_self getElem_mem filter_congr filter_append singleton_append length_singleton)
open Go Go.RowKit Go.MapKept
set_option linter.unusedVariables false
set_option linter.unusedSimpArgs false
open AF (bm cu jn)
open Hex (cU hv uh cO iD)
abbrev DX:=List (ByteArray×ByteArray)
theorem kf {α:Type} {k:Int} {x:α}:∀ {T:List (Int×α)},(∀ p∈T,p.1<k)→bR k x T=T++[(k,x)]
 | [],_=>rfl
 | p::T,h=>by
   have h1:=h p (mem_cons_self ..);unfold bR;rw [ak (by omega),ak (by omega),kf (fun q hq=>h q (aB _ hq))]
   rfl
theorem GU {c:Nat} (hc:c<256) (n:Int):sb (cu c n)=c::46::cU 16 (eY n):=AF.Fnm.JM hc _
theorem i4 (x:List Nat):(bT x).size=x.length:=by
 unfold bT
 simp [ByteArray.size]
theorem rS {l r:List Nat} {p:ByteArray×ByteArray} (h:gi l=some (p,r)):p.1.size+p.2.size+r.length+2≤l.length:=by
 unfold gi at h
 split at h
 · cases h
 · rename_i a s hs;have h1:=iw hs;split at h
   · cases h
   · rename_i b t ht;have h2:=iw ht;cases h;have e1:(bT a).size=a.length:=i4 a;have e2:(bT b).size=b.length:=i4 b;dsimp only;omega
def ko (ps:DX):Nat:=(ps.map fun p=>p.1.size+p.2.size+2).sum
theorem lq:∀ (n:Nat) (l r:List Nat) (ps:DX),bK n l=some (ps,r)→ko ps+r.length≤l.length
 | 0,l,r,ps,h=>by
   cases h;simp [ko]
 | n+1,l,r,ps,h=>by
   unfold bK at h;split at h
   · cases h
   · rename_i p s hs;have h1:=rS hs;split at h
     · cases h
     · rename_i qs t ht;have h2:=lq n _ _ _ ht;cases h;unfold ko at h2 ⊢;rw [map_cons,sum_cons];omega
theorem ja {l:List Nat} {ps:DX} (h:cI l=some ps):ko ps≤l.length∧ko ps≤16777216:=by
 unfold cI at h
 split at h
 · cases h
 · rename_i n k hk;split at h
   · rename_i qs hq;have:=lq _ _ _ _ hq;split at h
     · cases h;simp only [length_nil,length_drop] at this;omega
     · cases h
   · cases h
theorem zJ (ps:DX):2*ps.length≤ko ps:=by
 unfold ko
 induction ps with
 | nil=>exact av _
 | cons p l ih=>rw [map_cons,sum_cons,ao]; omega
theorem oZ {ps:DX} {p:ByteArray×ByteArray} (h:p∈ps):p.1.size+p.2.size+2≤ko ps:=by
 unfold ko
 induction ps with
 | nil=>cases h
 | cons q l ih=>
   rw [map_cons,sum_cons]
   rcases ay.1 h with rfl | h
   · omega
   · have:=ih h;omega
theorem qT {ps:DX} (h:ko ps≤16777216):ps.length≤8388608:=by
 have:=zJ ps
 omega
namespace Hex
theorem Ge:∀ (l:List Nat) (a v:Nat),uh l a=some v→v<(a+1)*16^l.length
 | [],a,v,h=>by cases h; simp
 | c::l,a,v,h=>by
   unfold uh at h
   cases hc:hv c with
   | none=>rw [hc] at h; cases h
   | some k=>
     rw [hc] at h;have h1:=Ge l _ v h;have hk:=yK hc;rw [ao,Nat.pow_succ];refine Nat.lt_of_lt_of_le h1 ?_;have e:(a+1)*(16^l.length*16)=(16*a+16)*16^l.length:=by rw [Nat.mul_comm (16^l.length) 16,← Nat.mul_assoc]; congr 1; omega
     rw [e];exact Nat.mul_le_mul_right _ (by omega)
end Hex
namespace Hex
theorem Er {c k:Nat} (h:hv c=some k):iD k=c:=by
 unfold hv at h
 unfold iD
 split at h
 · cases h;rw [al (by omega)];omega
 · split at h
   · cases h;rw [ak (by omega)];omega
   · cases h
end Hex
namespace Hex
theorem Bc:∀ (l:List Nat) (a v:Nat),uh l a=some v→l=cU l.length v
 | [],a,v,h=>rfl
 | c::l,a,v,h=>by
   unfold uh at h
   cases hc:hv c with
   | none=>rw [hc] at h; cases h
   | some k=>
     rw [hc] at h;have h1:=Ge l _ v h;have h2:=Bd l _ v h;have hk:=yK hc;have ih:=Bc l _ v h;rw [ao,cU,← ih];have e:v / 16^l.length=16*a+k:=by
      refine Nat.div_eq_of_lt_le ?_ ?_
      · exact h2
      · exact h1
     rw [e,show (16*a+k)%16=k by omega,Er hc]
end Hex
namespace Hex
theorem oI {s:List Nat} {v:Nat} (h:cO s=some v):s=cU 16 v∧v<9223372036854775808:=by
 unfold cO at h
 split at h
 · rename_i hl;split at h
   · rename_i w hw;split at h
     · cases h;have:=Bc _ _ _ hw;rw [hl] at this;rename_i hlt;exact ⟨this,hlt⟩
     · cases h
   · cases h
 · cases h
end Hex
namespace AF
theorem Em {dir:ByteArray} {A:FS} (W:A.WF) {ks:List ByteArray} (h:A.list dir=.ok ks):ks.Pairwise fun a b=>jn a b=true:=by
 unfold FS.list at h
 cases hr:A.ready dir [] with
 | error e=>rw [hr] at h; cases h
 | ok i=>
   rw [hr] at h;obtain ⟨_,_,_,_,d,hd,_⟩:=dD hr;simp only [Except.ok.injEq] at h;rw [← h,jz hd];exact List.pairwise_map.2 (W.each d (ai hd)).ok.up
end AF
namespace AF
theorem yw {dir:ByteArray} {A:FS} (W:(A.tidy dir).1.WF) {ks:List ByteArray} (h:(A.tidy dir).2=.ok ks):ks.Pairwise fun a b=>jn a b=true:=by
 unfold FS.tidy at h W
 split at h
 · cases h
 · rename_i B n hc;rw [hc] at W;exact Em W h
end AF
namespace AF
theorem yB {dir:ByteArray} {A:FS} (W:(A.prep dir).1.WF) {ks:List ByteArray} (h:(A.prep dir).2=.ok ks):ks.Pairwise fun a b=>jn a b=true:=by
 unfold FS.prep at h W
 split at h
 · rename_i hl;rw [hl] at W;simp only at W;split at h
   · rename_i hm;rw [al hm] at W;exact yw W h
   · cases h
 · rename_i hl;refine yw (A:=A) ?_ h;revert W;split
   · rename_i hl2;exact absurd hl2 (hl)
   · exact fun W=>W
end AF
theorem JN {s:ByteArray} {n v:Nat} (h18:s.size=18) (h1:bt s 1=46) (hb:bt s 0=(n:Int)) (hu:Hex.cO (sb (s.extract 2 18))=some v):s=cu n (v:Int):=by
 obtain ⟨e1,e2⟩:=Hex.oI hu
 have hl:(sb s).length=18:=by rw [bd,h18]
 have h8:=fT s
 match hs:sb s,hl with
 | x0::x1::r,hl=>
   have a0:bt s 0=(x0:Int):=iG (i:=0) (by rw [hs]; rfl);have a1:bt s 1=(x1:Int):=iG (i:=1) (by rw [hs]; rfl);rw [ff,hs] at e1;simp only [List.drop_succ_cons,drop_zero] at e1;have hrl:r.length=16:=by simpa using hl
   rw [ar (by omega)] at e1;refine iK ?_;rw [GU (by have:=h8 x0 (by rw [hs]; exact mem_cons_self ..); omega),hs,sM (by omega),e1];congr 1
   · omega
   · congr 1;omega
namespace AF
theorem entry_err {A:FS} {dir name:ByteArray} {e:Nat} (h:A.entry dir name=.error e):e=60∨e=61∨e=62∨e=65:=by
 unfold FS.entry FS.ready FS.named at h
 split at h
 · rename_i e2 he;split at he
   · cases he; cases h; exact .inl rfl
   · split at he
     · split at he
       · cases he
       · cases he; cases h; exact .inr (.inl rfl)
     · cases he; cases h; exact .inr (.inr (.inr rfl))
 · split at h
   · cases h
   · cases h; exact .inr (.inr (.inl rfl))
end AF
namespace AF
theorem yM {A:FS} {dir name:ByteArray} {e:Nat} (h:A.get dir name=.error e):e≠0:=by
 unfold FS.get FS.read at h
 split at h
 · rename_i e2 he;cases h;split at he
   · rename_i e3 he3;cases he
     rcases entry_err he3 with h | h | h | h <;> omega
   · cases he
 · split at h
   · split at h
     · cases h
     · cases h; decide
   · cases h; decide
end AF
namespace AF
theorem xO {A:FS} (W:A.WF) {dir name:ByteArray} {i x:Nat} (h:A.entry dir name=.ok (i,x)):(A.X x).b.length≤16777216∧B8 (A.X x).b:=by
 obtain ⟨h1,h2⟩:=lQ h
 obtain ⟨_,_,_,_,d,hd,_⟩:=dD h1
 rw [jz hd] at h2
 have hx:=((W.each d (ai hd)).ok.each _ (jW h2)).1
 have:=W.files _ (getElem_mem hx)
 rw [rA (ah hx)]
 exact this.2
end AF
namespace AF
theorem B5 {A:FS} (W:A.WF) {dir name:ByteArray} {bs:List Nat} (h:A.get dir name=.ok bs):B8 bs∧bs.length≤16777216:=by
 unfold FS.get FS.read at h
 split at h
 · cases h
 · rename_i b hb;split at hb
   · cases hb
   · rename_i i x he;cases hb;have hf:=(xO W he).2;split at h
     · rename_i y hy;split at h
       · cases h;obtain ⟨_,h2,_,_,_,h6⟩:=Frame.jM hf hy;exact ⟨h6,by omega⟩
       · cases h
     · cases h
end AF
namespace AF
theorem xE {dir:ByteArray} {A:FS} (W:A.WF) {ks:List ByteArray} (h:A.list dir=.ok ks):∀ s∈ks,right s=true:=by
 unfold FS.list at h
 cases hr:A.ready dir [] with
 | error e=>rw [hr] at h; cases h
 | ok i=>
   rw [hr] at h;obtain ⟨_,_,_,_,d,hd,_⟩:=dD hr;simp only [Except.ok.injEq] at h;rw [← h,jz hd];intro s hs;obtain ⟨p,hp,rfl⟩:=List.mem_map.1 hs;exact ((W.each d (ai hd)).ok.each p hp).2
end AF
namespace AF
theorem oQ {dir:ByteArray} {A:FS} {ks:List ByteArray} (h:(A.prep dir).2=.ok ks):(A.prep dir).1.list dir=.ok ks:=by
 have tidy:∀ B:FS,(B.tidy dir).2=.ok ks→(B.tidy dir).1.list dir=.ok ks:=fun B hB=>by
  unfold FS.tidy at hB ⊢;split at hB
  · cases hB
  · exact hB
 unfold FS.prep at h ⊢
 split at h
 · split at h
   · rename_i hm;rw [al hm];exact tidy _ h
   · cases h
 · exact tidy _ h
end AF
namespace AF
theorem vA {s:ByteArray} (h:right s=true):s.size≤32:=by
 unfold right at h
 simp only [aw,decide_eq_true_eq] at h
 exact h.1.2
end AF
theorem uv {c:ByteArray} {n:Int} (h:c.size=2):c.size+(bT (cU 16 (eY n))).size≤9223372036854775807:=by
 rw [h,i4,Hex.gg]
 decide
def lL (e:Nat):Prop:=e=60∨e=61∨e=62∨e=65
namespace AF
theorem m6 {A:FS} {dir a:ByteArray} (h:(A.remove dir a).2≠0):lL (A.remove dir a).2:=by
 unfold FS.remove at h ⊢
 split
 · rename_i e he;exact entry_err he
 · rename_i he;rw [he] at h;unfold FS.step at h ⊢;split
   · exact .inl rfl
   · rename_i hf;simp only [ak hf] at h;exact absurd rfl h
end AF
namespace AF
theorem jp {α:Type} {dir:ByteArray} {c:Nat} {p:Int→Bool}:∀ (l:List Int) (A:FS) (T:List (Int×α)) (s:Bool),(fY dir c p l A T s).2.2.2=0→(fY dir c p l A T s).2.1=T.filter (fun q => !(decide (q.1∈l)&&p q.1))
 | [],A,T,s,h=>by
   unfold fY;rw [zV];intro x hx;simp
 | n::l,A,T,s,h=>by
   by_cases hp:p n=true
   · by_cases he:(A.remove dir (cu c n)).2=0
     · rw [ob hp he] at h ⊢;rw [jp l _ _ _ h];unfold ru;rw [List.filter_filter];apply filter_congr;intro q _;by_cases hq:q.1=n
       · simp [hq,hp]
       · simp [hq]
     · rw [pL hp he] at h;exact absurd h he
   · rw [n9 hp] at h ⊢;rw [jp l _ _ _ h];apply filter_congr;intro q _;by_cases hq:q.1=n
     · simp [hq,hp]
     · simp [hq]
end AF
namespace AF
theorem uC {α:Type} {dir:ByteArray} {c:Nat} {p:Int→Bool}:∀ (l:List Int) (A:FS) (T:List (Int×α)) (s:Bool),Gr l.length A (fY dir c p l A T s).1
 | [],A,T,s=>Gr.same _ A
 | n::l,A,T,s=>by
   unfold fY;split
   · have h1:=ku A dir (cu c n);split
     · exact (h1.trans (uC l _ _ _)).le (by rw [ao]; omega)
     · exact h1.le (by rw [ao]; omega)
   · exact (uC l A T s).le (by rw [ao]; omega)
end AF
theorem o9 {α:Type} {D:List (Int×α)} {p:Int→Bool} {i:Nat} {x:Int×α} (hx:D[i]? = some x):(D.take (i+1)).filter (fun q => !p q.1)=if p x.1=true then (D.take i).filter (fun q => !p q.1) else (D.take i).filter (fun q => !p q.1)++[x]:=by
 rw [ax,hx,filter_append]
 by_cases h:p x.1=true
 · rw [al h];simp [h]
 · rw [ak h];simp [h]
theorem q4 {α:Type} {D:List (Int×α)} {p:Int→Bool}:D.filter (fun q => !(decide (q.1∈D.map (·.1))&&p q.1))=D.filter fun q => !p q.1:=by
 apply filter_congr
 intro q hq
 rw [af (List.mem_map.2 ⟨q,hq,rfl⟩),Bool.true_and]
namespace AF
theorem n8 {α:Type} {dir:ByteArray} {c:Nat} {p:Int→Bool}:∀ (l:List Int) (A:FS) (T:List (Int×α)) (s:Bool),(fY dir c p l A T s).2.2.2≠0→lL (fY dir c p l A T s).2.2.2
 | [],A,T,s,h=>absurd rfl h
 | n::l,A,T,s,h=>by
   unfold fY at h ⊢;split
   · rename_i hp;rw [al hp] at h;split
     · rename_i he;rw [al he] at h;exact n8 l _ _ _ h
     · rename_i he;exact m6 he
   · rename_i hp;rw [ak hp] at h;exact n8 l _ _ _ h
end AF
open AF (bA dq bm cu fe dz ey be ed jn fY)
open Hex (cU cO)
def EK (n:Int):Prop:=0≤n∧n<9223372036854775808
def Ae (p:Int×List Nat):Prop:=EK p.1∧B8 p.2∧p.2.length≤16777216
def oG (E:fe):Nat:=(E.map fun p=>40+p.2.length).sum
theorem A6 (E:fe) (p:Int×List Nat):oG (E++[p])=oG E+(40+p.2.length):=by
 unfold oG
 rw [map_append,sum_append]
 simp
theorem eQ (E:fe) (p:Int×List Nat):oG (p::E)=40+p.2.length+oG E:=rfl
theorem kG (q:Int×List Nat→Bool):∀ E:fe,oG (E.filter q)≤oG E
 | []=>av _
 | p::E=>by
   have:=kG q E;rw [filter_cons];split
   · rw [eQ,eQ]; omega
   · rw [eQ]; omega
theorem jD:∀ E:fe,40*E.length≤oG E
 | []=>av _
 | p::E=>by
   have:=jD E;rw [eQ,ao];omega
theorem vR {n:Int} (h:EK n):((eY n:Nat):Int)=n∧eY n<9223372036854775808:=by
 obtain ⟨m,rfl⟩:=Int.eq_ofNat_of_zero_le h.1
 have:=h.2
 have e:eY (m:Int)=m:=sM (by omega)
 rw [e]
 omega
theorem me {α:Type} {p:Int×α} {E:List (Int×α)}:gQ (p::E)↔(∀ q∈E,p.1<q.1)∧gQ E:=pairwise_cons
theorem pZ {α:Type} {E:List (Int×α)} {p:Int×α} (h:gQ E) (hp:∀ q∈E,q.1<p.1):gQ (E++[p]):=
 List.pairwise_append.2 ⟨h,pairwise_singleton _ _,fun q hq r hr=>by rw [List.mem_singleton.1 hr]; exact hp q hq⟩
namespace AF
theorem Bf {α:Type} (E:List (Int×α)) (p:Int×α):bm (E++[p])=max (bm E) p.1:=by
 unfold bm
 rw [map_append,foldl_append]
 rfl
theorem jb {α:Type} {E:List (Int×α)} (hu:gQ E) (h0:∀ p∈E,0≤p.1) {p:Int×α} (hp:E[E.length - 1]? = some p):bm E=p.1:=by
 have hm:=ai hp
 have h1:=gU hm
 have h2:=h0 p hm
 obtain ⟨q,hq,e⟩:=iT (T:=E) (by omega)
 obtain ⟨i,hi⟩:=List.mem_iff_getElem?.1 hq
 obtain ⟨b1,e1⟩:=aj.1 hi
 obtain ⟨b2,e2⟩:=aj.1 hp
 rcases Nat.lt_or_ge i (E.length - 1) with h | h
 · have:=List.pairwise_iff_getElem.1 hu i (E.length - 1) b1 b2 h;rw [e1,e2] at this;omega
 · have:i=E.length - 1:=by omega
   subst this;rw [hi] at hp;cases hp;exact e.symm
theorem qm {α:Type} {E:List (Int×α)} (h0:∀ p∈E,0≤p.1):bm E<0↔E=[]:=by
 constructor
 · intro h
   cases E with
   | nil=>rfl
   | cons p E=>
     have h1:=gU (T:=p::E) (mem_cons_self ..);have:=h0 p (mem_cons_self ..);omega
 · rintro rfl;exact Int.negSucc_lt_zero 0
def lr:DX→fe→Option fe
 | [],E=>some E
 | p::l,E=>match Hex.cO (sb p.1) with
   | none=>none
   | some n=>if (n:Int)≤bm E then none else lr l (E++[((n:Int),sb p.2)])
def dB (bs:List Nat) (last:Int):Option fe:=match cI bs with
 | none=>none
 | some []=>none
 | some (p::l)=>match lr (p::l) [] with
   | none=>none
   | some E=>if bm E=last then some E else none
def eI (A:FS) (dir:ByteArray) (Fo:List (Int×Unit)):Except Nat fe:=
 if bm Fo<0 then .ok [] else match A.get dir (cu 102 (bm Fo)) with
 | .error e=>.error e
 | .ok bs=>match dB bs (bm Fo) with
   | none=>.error 70
   | some E=>.ok E
def eD (A:FS) (dir:ByteArray):List Int→Except Nat fe
 | []=>.ok []
 | n::l=>match A.get dir (cu 98 n) with
   | .error e=>.error e
   | .ok b=>match eD A dir l with
     | .error e=>.error e
     | .ok L=>.ok ((n,b)::L)
def gw (A:FS) (dir:ByteArray):FS×Except Nat bA:=((A.prep dir).1,match (A.prep dir).2 with
 | .error e=>.error e
 | .ok ks=>match eI (A.prep dir).1 dir (be ks).2 with
   | .error e=>.error e
   | .ok D=>match eD (A.prep dir).1 dir ((be ks).1.map (·.1)) with
     | .error e=>.error e
     | .ok S=>.ok ⟨dir,S,(be ks).2,D⟩)
theorem yu:∀ (ps:DX) (E U:fe),lr ps E=some U→gQ E→(∀ p∈E,Ae p)→(∀ p∈ps,p.2.size≤16777216)→gQ U∧(∀ p∈U,Ae p)∧oG U≤oG E+20*ko ps
 | [],E,U,h,hu,ho,_=>by cases h; exact ⟨hu,ho,Nat.le_add_right _ _⟩
 | p::l,E,U,h,hu,ho,hs=>by
   unfold lr at h;split at h
   · cases h
   · rename_i n hn;split at h
     · cases h
     · rename_i hlt;have h2:=(Hex.oI hn).2;have hu2:gQ (E++[((n:Int),sb p.2)]):=pZ hu fun q hq=>by
        have:=gU hq;dsimp only;omega
       have ho2:∀ q∈E++[((n:Int),sb p.2)],Ae q:=fun q hq=>by
        rcases List.mem_append.1 hq with hq | hq
        · exact ho q hq
        · rw [List.mem_singleton.1 hq];exact ⟨⟨by dsimp only; omega,by dsimp only; omega⟩,fT _,by dsimp only; rw [bd]; exact hs p (mem_cons_self ..)⟩
       obtain ⟨a,b,c⟩:=yu l _ U h hu2 ho2 (fun q hq=>hs q (aB _ hq));refine ⟨a,b,?_⟩;rw [A6] at c;simp only [bd] at c;have e:ko (p::l)=p.1.size+p.2.size+2+ko l:=rfl;rw [e];omega
theorem xj {bs:List Nat} {last:Int} {E:fe} (h:dB bs last=some E):gQ E∧(∀ p∈E,Ae p)∧oG E≤335544320∧bm E=last:=by
 unfold dB at h
 split at h
 · cases h
 · cases h
 · rename_i p l hun;split at h
   · cases h
   · rename_i U hU;split at h
     · rename_i ht;cases h;obtain ⟨_,m⟩:=ja hun;obtain ⟨a,b,c⟩:=yu _ _ _ hU List.Pairwise.nil (by simp) (fun q hq=>by have:=oZ hq; omega);refine ⟨a,b,?_,ht⟩;have:oG []=0:=rfl;omega
     · cases h
theorem xI {A:FS} {dir:ByteArray} {Fo:List (Int×Unit)} {E:fe} (h:eI A dir Fo=.ok E):gQ E∧(∀ p∈E,Ae p)∧oG E≤335544320∧bm E=bm Fo:=by
 unfold eI at h
 split at h
 · rename_i h0;cases h;have:=Bg Fo;refine ⟨List.Pairwise.nil,by simp,by decide,?_⟩;have e:bm ([]:fe) = -1:=rfl;omega
 · split at h
   · cases h
   · split at h
     · cases h
     · rename_i hu;cases h;exact xj hu
theorem qH {A:FS} (W:A.WF) {dir:ByteArray}:∀ (l:List Int) (L:fe),eD A dir l=.ok L→(∀ n∈l,EK n)→L.map (·.1)=l∧∀ p∈L,Ae p
 | [],L,h,_=>by cases h; exact ⟨rfl,by simp⟩
 | n::l,L,h,ho=>by
   unfold eD at h;split at h
   · cases h
   · rename_i b hb;split at h
     · cases h
     · rename_i L2 hL;cases h;obtain ⟨h1,h2⟩:=qH W l L2 hL (fun m hm=>ho m (aB _ hm));refine ⟨by rw [map_cons,h1],fun p hp=>?_⟩
       rcases ay.1 hp with rfl | hp
       · exact ⟨ho n (mem_cons_self ..),B5 W hb⟩
       · exact h2 p hp
theorem nf {A:FS} {dir:ByteArray} (n:Int) (l:List Int):eD A dir (n::l)=match A.get dir (cu 98 n) with
 | .error e=>.error e
 | .ok b=>match eD A dir l with
   | .error e=>.error e
   | .ok L=>.ok ((n,b)::L):=rfl
theorem nd {A:FS} {dir:ByteArray}:∀ (l m:List Int),eD A dir (l++m)=match eD A dir l with
  | .error e=>.error e
  | .ok L=>match eD A dir m with
    | .error e=>.error e
    | .ok K=>.ok (L++K)
 | [],m=>by
   rw [nil_append,show eD A dir []=.ok [] from rfl];cases eD A dir m <;> rfl
 | n::l,m=>by
   rw [cons_append,nf,nf]
   cases A.get dir (cu 98 n) with
   | error e=>rfl
   | ok b=>
     simp only [];rw [nd l m]
     cases eD A dir l with
     | error e=>rfl
     | ok L=>
       simp only [];cases eD A dir m <;> rfl
end AF
theorem qx {α:Type} {n:Int} {x y:α} {R:List (Int×α)}:∀ {P:List (Int×α)},(∀ p∈P,p.1<n)→bR n x (P++(n,y)::R)=P++(n,x)::R
 | [],_=>by
   rw [nil_append];unfold bR;rw [al rfl]
   rfl
 | p::P,h=>by
   have:=h p (mem_cons_self ..);rw [cons_append];unfold bR;rw [ak (by omega),ak (by omega),qx (fun q hq=>h q (aB _ hq))]
   rfl
namespace AF
theorem pC {A:FS} {dir:ByteArray}:∀ (R P:fe),gQ (P++R)→ed A dir (R.map (·.1)) (P++R)=match eD A dir (R.map (·.1)) with
  | .error e=>.error e
  | .ok L=>.ok (P++L)
 | [],P,_=>by
   rw [map_nil];unfold ed eD
   rfl
 | (n,y)::R,P,hu=>by
   rw [map_cons]
   conv=>lhs; unfold ed
   conv=>rhs; unfold eD
   dsimp only
   cases hg:A.get dir (cu 98 n) with
   | error e=>rfl
   | ok b=>
     dsimp only;have h1:∀ p∈P,p.1<n:=fun p hp=>(List.pairwise_append.1 hu).2.2 p hp _ (mem_cons_self ..);rw [qx h1];have h2:gQ (P++[(n,b)]++R):=by
      have:=il (k:=n) (x:=b) hu;rw [qx h1] at this;rw [append_assoc];exact this
     have h3:=pC (A:=A) (dir:=dir) R (P++[(n,b)]) h2;rw [append_assoc,singleton_append] at h3;rw [h3]
     cases eD A dir (R.map (·.1)) with
     | error e=>rfl
     | ok L=>simp
end AF
theorem lJ {s:ByteArray} {c:Nat} {n:Int} (h:dz s=some (c,n)):(c=98∨c=102)∧EK n∧s=cu c n:=by
 unfold AF.dz at h
 split at h
 · rename_i hc;obtain ⟨h18,h46,h0⟩:=hc
   cases hu:Hex.cO ((sb s).drop 2) with
   | none=>rw [hu] at h; cases h
   | some v=>
     rw [hu] at h;simp only [Option.map_some,Option.some.injEq,Prod.mk.injEq] at h;obtain ⟨rfl,rfl⟩:=h;obtain ⟨hd,hlt⟩:=Hex.oI hu;have hl:(sb s).length=18:=by rw [bd]; exact h18
     have hx0:(sb s)[0]? = some ((sb s).getD 0 0):=by
      rw [getD_eq_getElem?_getD,ah (by omega)]
      rfl
     have hc:(sb s).getD 0 0=98∨(sb s).getD 0 0=102:=by
      rw [hx0] at h0;simpa using h0
     refine ⟨hc,⟨by omega,by omega⟩,?_⟩;refine JN h18 (iG h46) (iG hx0) ?_;have e:sb (s.extract 2 18)=(sb s).drop 2:=by
      rw [ff,ar (by rw [length_drop]; omega)]
     rw [e,hu]
 · cases h
theorem BR {c:Nat} (hc:c<256) {a b:Int} (ha:EK a) (hb:EK b) (h:jn (cu c a) (cu c b)=true):a<b:=by
 obtain ⟨a1,a2⟩:=vR ha
 obtain ⟨b1,b2⟩:=vR hb
 have:=AF.Fnm.JO (c:=c) hc (nY a) (nY b)
 have h2:decide (eY a<eY b)=true:=by rw [← this]; exact h
 have h3:=of_decide_eq_true h2
 omega
def cM (c:Nat) (ks:List ByteArray):List Int:=ks.filterMap fun s=>match dz s with
 | some (d,n)=>if d=c then some n else none
 | none=>none
theorem lC (c:Nat) (ks:List ByteArray) (s:ByteArray):cM c (ks++[s])=cM c ks++(match dz s with
 | some (d,n)=>if d=c then [n] else []
 | none=>[]):=by
 unfold cM
 rw [List.filterMap_append]
 congr 1
 cases hk:dz s with
 | none=>simp [hk]
 | some q=>
   obtain ⟨d,n⟩:=q;by_cases e:d=c
   · simp [hk,e]
   · simp [hk,e]
theorem qQ {c:Nat} {ks:List ByteArray} {n:Int}:n∈cM c ks↔∃ s∈ks,dz s=some (c,n):=by
 unfold cM
 rw [List.mem_filterMap]
 constructor
 · rintro ⟨s,hs,h⟩;refine ⟨s,hs,?_⟩;split at h
   · rename_i d m hk;split at h
     · rename_i e;cases h;rw [hk,e]
     · cases h
   · cases h
 · rintro ⟨s,hs,h⟩;exact ⟨s,hs,by rw [h]; exact al rfl⟩
theorem mo {c:Nat} {ks:List ByteArray}:∀ n∈cM c ks,EK n:=fun n hn=>by
 obtain ⟨s,_,h⟩:=qQ.1 hn
 exact (lJ h).2.1
theorem jl (c:Nat) (ks:List ByteArray):(cM c ks).length≤ks.length:=List.length_filterMap_le _ _
theorem oM:∀ (n:Nat) (ks:List ByteArray),ks.length=n→ks.Pairwise (fun a b=>jn a b=true)→(be ks).1=(cM 98 ks).map (fun n=>(n,[]))∧(be ks).2=(cM 102 ks).map (fun n=>(n,()))∧
  gQ ((cM 98 ks).map fun n=>(n,([]:List Nat)))∧gQ ((cM 102 ks).map fun n=>(n,()))
 | 0,ks,hl,_=>by
   rw [List.length_eq_zero_iff.1 hl];exact ⟨rfl,rfl,List.Pairwise.nil,List.Pairwise.nil⟩
 | n+1,ks,hl,hp=>by
   obtain ⟨l,s,rfl⟩:∃ l s,ks=l++[s]:=⟨_,_,(List.dropLast_concat_getLast (by intro e; rw [e] at hl; cases hl)).symm⟩
   rw [am,length_singleton] at hl;obtain ⟨p1,_,p3⟩:=List.pairwise_append.1 hp;obtain ⟨h1,h2,h3,h4⟩:=oM n l (by omega) p1;have less:∀ (c:Nat) (m:Int),c<256→dz s=some (c,m)→∀ k∈cM c l,k<m:=fun c m hc hk k hkm=>by
    obtain ⟨t,ht,hkt⟩:=qQ.1 hkm;obtain ⟨_,o1,e1⟩:=lJ hk;obtain ⟨_,o2,e2⟩:=lJ hkt;have:=p3 t ht s (by simp);rw [e1,e2] at this;exact BR hc o2 o1 this
   have e:be (l++[s])=ey (be l) s:=by
    unfold AF.be;rw [foldl_append]
    rfl
   rw [e,lC,lC];unfold AF.ey
   cases hk:dz s with
   | none=>
     simp only [append_nil];exact ⟨h1,h2,h3,h4⟩
   | some q=>
     obtain ⟨c,m⟩:=q
     rcases (lJ hk).1 with rfl | rfl
     · simp only [al,append_nil,Nat.reduceEqDiff,if_false,map_append,map_cons,map_nil];rw [h1,h2];have hlt:∀ p∈(cM 98 l).map (fun n=>(n,([]:List Nat))),p.1<m:=fun p hp=>by
        obtain ⟨k,hk2,rfl⟩:=List.mem_map.1 hp;exact less 98 m (by decide) hk k hk2
       exact ⟨kf hlt,rfl,pZ h3 hlt,h4⟩
     · simp only [al,append_nil,Nat.reduceEqDiff,if_false,map_append,map_cons,map_nil];rw [h1,h2];have hlt:∀ p∈(cM 102 l).map (fun n=>(n,())),p.1<m:=fun p hp=>by
        obtain ⟨k,hk2,rfl⟩:=List.mem_map.1 hp;exact less 102 m (by decide) hk k hk2
       exact ⟨rfl,kf hlt,h3,pZ h4 hlt⟩
open AF (bA dq bm cu fe dz ey be ed lr dB eI eD gw)
theorem Bw {α:Type} {E:List (Int×α)} {n:Int} {x:α} (h:bm E<n):bR n x E=E++[(n,x)]:=kf fun p hp=>by
 have:=AF.gU hp
 omega
theorem L7 {h:Heap} {b:Nat} {e:TypeId} {fr:Nat×Nat} {K:Option Addr→Prop} (hb:h[b]? = some (.cells #[.pointer none] e fr)) (hK:K none):Ld h ⟨b,0,none⟩ fun v=>DP v K:=gJ hb rfl ⟨_,rfl,hK⟩
section
variable {F:List aE} {h:Heap}
set_option maxHeartbeats 1000000 in
theorem E7 {a:Option Addr} {c:Nat} {bs:List Nat} {last:Int} (h8:B8 bs) (hl:bs.length≤16777216) (H:aD (aL 5 1 a bs.length c (bs.map nv)::F) h) :
  aC prog 36 [.slice a bs.length c,.int .i64 last] h fun v h'=>(∃ mb E,dB bs last=some E∧v=.tuple #[.map (some mb),.bool true]∧aD (bP Bs mb E::F) h')∨
   (dB bs last=none∧(∃ m,v=.tuple #[.map m,.bool false])∧aD F h'):=by
 have hc:bs.length≤c:=by
  rcases (dP H).2 with ⟨_,h0,_⟩ | ⟨_,_,_,_,h1,_⟩ <;> omega
 apply Iy.ap
 unfold M7
 refine (EN h8 hc (by omega) (p8 H)).mono ?_
 rintro v h1 (⟨ps,a1,c1,hu,rfl,H1⟩ | ⟨hu,rfl,H1⟩)
 rotate_left
 · refine ⟨none,0,0,41,rfl,?_⟩;rw [show ((41:Int)!=0)=true from rfl,ab];exact .inr ⟨by unfold dB; rw [hu],⟨_,rfl⟩,H1⟩
 have hmass:=(ja hu).2
 have hplen:=qT hmass
 refine ⟨a1,ps.length,c1,0,rfl,?_⟩
 rw [show ((0:Int)!=0)=false from rfl,aa]
 by_cases hne:ps=[]
 · subst hne;rw [show ((((([]:DX).length:Nat):Int))==0)=true from rfl,ab];exact .inr ⟨by unfold dB; rw [hu],⟨_,rfl⟩,H1.drop⟩
 have hpos:0<ps.length:=List.length_pos_iff.2 hne
 rw [iW (show ¬ ((ps.length:Int)=0) by omega),aa]
 have hun:dB bs last=match lr ps [] with
   | none=>none
   | some E=>if bm E=last then some E else none:=by
  unfold dB;rw [hu]
  cases ps with
  | nil=>exact absurd rfl hne
  | cons p l=>rfl
 refine aQ H1 fun b1 h2 H2=>?_
 refine aZ.upto ps.length (fun i (s:Int×Int) h3=>s.2=(i:Int)∧i≤ps.length∧∃ E,lr ps []=lr (ps.drop i) E∧s.1=bm E∧aD (bP Bs b1 E::aL 98 2 a1 ps.length c1 (ps.flatMap bV)::F) h3) (fun s=>ps.length - s.2.toNat) (fun i s h2 hh=>⟨hh.2.1,by rw [hh.1]; omega⟩)
  ⟨rfl,au _,[],rfl,rfl,j8 H2⟩ ?_ ?_
 · rintro i ⟨s1,s2⟩ h3 again hi ⟨rfl,_,E,hE,hs1,H3⟩ go;dsimp only at hs1 H3 ⊢;subst hs1;rw [af (show ((i:Int)<(ps.length:Int)) by omega),ab];obtain ⟨⟨k,x⟩,hx⟩:∃ x,ps[i]? = some x:=⟨_,ah hi⟩
   have hdrop:ps.drop i=(k,x)::ps.drop (i+1):=by
    rw [drop_eq_getElem_cons hi];rw [ah hi] at hx;rw [Option.some.inj hx]
   have hm:=oZ (ai hx);dsimp only at hm;refine fX (f:=bV) (sz:=2) (x:=(k,x)) i3 (by decide) (aH (H3.mv 1)) rfl hx fun b hb hc=>?_;refine ⟨.string k,hc 0 _ rfl,.string x,hc 1 _ rfl,k,x,rfl,?_⟩;refine aQ H3 fun b2 h4 H4=>?_;simp only [aV];refine dK H4 (by decide) (bO 2 0 (by decide)) fun h5 H5=>?_;refine dK (i:=1) H5 (by simp) (bO 2 1 (by decide)) fun h6 H6=>?_;have H7:aD (pt b2 (.cells #[.string k,.string x] 98 (0,0))::bP Bs b1 E::aL 98 2 a1 ps.length c1 (ps.flatMap bV)::F) h6:=H6;refine ⟨.string k,by rw [bj H7.get]; rfl,k,rfl,?_⟩;refine (wE (s:=k) (by omega) H7).mono ?_;rintro v h7 ⟨rfl,H8⟩;rw [hdrop] at hE
   conv at hE=>rhs; unfold lr
   dsimp only at hE
   cases hk:cO (sb k) with
   | none=>
     rw [hk] at hE;refine ⟨0,false,rfl,?_⟩;rw [aA,ab];exact .inr ⟨by rw [hun,hE],⟨_,rfl⟩,H8.ordT 3 []⟩
   | some n=>
     rw [hk] at hE;dsimp only at hE;refine ⟨(n:Int),true,rfl,?_⟩;rw [az,aa];by_cases hle:(n:Int)≤bm E
     · rw [al hle] at hE;rw [af hle,ab];exact .inr ⟨by rw [hun,hE],⟨_,rfl⟩,H8.ordT 3 []⟩
     rw [ak hle] at hE;rw [ae hle,aa];refine ⟨.string x,bZ (i:=1) H8 rfl,x,rfl,?_⟩;refine yV H8 (by unfold maxLen; omega) fun ca cc h8' H9=>?_;rw [aF];have hsx:=bd x;rw [← hsx] at H9 ⊢;have K5:=dX (S:=Bs (sb x) (.slice ca (sb x).length cc)) (fun h hR=>⟨ca,cc,rfl,hR⟩) (p8 H9);refine mh (kt:=2) (et:=31) (x:=sb x) (by kernel_rfl) (by kernel_rfl) (K5.ordT 3 [2,0]) fun h9 K6=>?_;rw [aK (by omega)];refine go _ _ ⟨rfl,by omega,_,hE,?_,?_⟩
     · rw [AF.Bf];dsimp only;omega
     · rw [Bw (by omega)] at K6;exact K6.ordT 2 [0,1]
 · rintro ⟨s1,s2⟩ h3 again ⟨rfl,_,E,hE,hs1,H3⟩;dsimp only at hs1 H3 ⊢;subst hs1;rw [ae (by omega),aa];rw [List.drop_length] at hE;have hE2:lr ps []=some E:=hE;by_cases ht:bm E=last
   · rw [jX ht];exact .inl ⟨b1,E,by rw [hun,hE2]; exact al ht,rfl,H3.ordT 2 [0]⟩
   · rw [iW ht];exact .inr ⟨by rw [hun,hE2]; exact ak ht,⟨_,rfl⟩,H3.ordT 2 []⟩
end
section
variable {F:List aE} {h:Heap} {b fsb:Nat} {M:bA} {A:AF.FS}
def Kl (b fsb:Nat) (M:bA) (A:AF.FS) (F:List aE) (v:Value) (h':Heap):Prop:=
 (∃ S,ed A M.dir (M.S.map (·.1)) M.S=.ok S∧v=.tuple #[aI b,.int .i64 0]∧aD (cP b fsb { M with S:=S }::co fsb A::F) h')∨
 (∃ e:Nat,ed A M.dir (M.S.map (·.1)) M.S=.error e∧e≠0∧v=.tuple #[.pointer none,.int .i64 (e:Int)]∧aD (co fsb A::F) h')
set_option maxHeartbeats 1000000 in
theorem zD {b0 b1 b2 b3 b8:Nat} {Q:Value→Heap→Prop} (W:A.WF) (hd:M.dir.size<4611686018427387904) (hl:M.S.length<1000000000)
  (H:aD (cP b fsb M::sI (b:=b) b0 b1 b2 b3 b8 fsb M.dir A F) h) (hQ:∀ v h',Kl b fsb M A F v h'→Q v h'):BM b0 b1 b2 b3 b8 h Q:=by
 unfold BM
 unfold sI at H
 refine lm (H.mv 5).get ?_
 rw [aP]
 obtain ⟨ms,mf,mm,H2⟩:=eO H
 refine lf (x:=ms) H2 rfl ?_
 refine (oC (H2.mv 1) (by omega)).mono ?_
 rintro v h1 ⟨kb,tb,a,c,s,rfl,hsk,hnd,H3⟩
 have hsl:s.length=M.S.length:=by
  have:=congrArg List.length hsk;simpa using this
 refine ⟨_,rfl,?_⟩
 let Ti:Nat→fe:=fun i=>match ed A M.dir ((M.S.map (·.1)).take i) M.S with
  | .ok V=>V
  | .error _=>[]
 have hTi:∀ i V,ed A M.dir ((M.S.map (·.1)).take i) M.S=.ok V→Ti i=V:=fun i V h=>by
  show (match ed A M.dir ((M.S.map (·.1)).take i) M.S with | .ok V=>V | .error _=>[])=V;rw [h]
 have hT0:Ti 0=M.S:=hTi 0 _ rfl
 let G:Nat→List aE:=fun i=>iJ (ed A M.dir ((M.S.map (·.1)).take i) M.S=.ok (Ti i))::pt b (.cells (fk fsb M.dir ms mf mm) 82 (0,0))::bP Bb mf M.Fo::bP Bs mm M.D::pt b0 (.cells #[aI fsb] 23 (0,0))::pt b1 (.cells #[.string M.dir] 9 (0,0))::pt b2 (.cells #[.pointer none] 27 (0,0))::pt b3 (.cells #[.int .i64 0] 24 (0,0))::pt b8 (.cells #[aI b] 27 (0,0))::co fsb A::F
 have H4:aD (cW Bs kb tb ms a c 78 s 0 (Ti 0)::G 0) h1:=by
  have P0:ed A M.dir ((M.S.map (·.1)).take 0) M.S=.ok (Ti 0):=by rw [hT0]; rfl
  have:=(bh.2 ⟨P0,H3⟩).bk 1;rw [hT0] at this ⊢;exact this
 refine iy s (fun x=>[.int .i64 x.1,x.2]) (fun i=>cW Bs kb tb ms a c 78 s i (Ti i)) G
  (fun j=>iJ (j=.ret)::mu (fun e:Nat=>cr [iJ (ed A M.dir (M.S.map (·.1)) M.S=.error e∧e≠0),pt b2 (.cells #[.pointer none] 27 (0,0)),pt b3 (.cells #[.int .i64 (e:Int)] 24 (0,0))])::co fsb A::F) H4 (fun _=>rfl) (fun yv G' Out h1 hh r f=>mE (by omega) Ti ou yv G' Out h1 hh r f) ?_ ?_ ?_
 · intro i x L rec h2 Q hx K hgo hstop;obtain ⟨n,v⟩:=x;have HL:=K.get;have hn:(M.S.map (·.1))[i]? = some n:=by rw [← hsk,getElem?_map,hx]; rfl
   obtain ⟨x,hgx,va,vc,rfl,hR⟩:=g9 (K.mv 2) hx;obtain ⟨hok,K'⟩:=bh.1 (K.mv 3);refine ⟨n,va,x.length,vc,rfl,HL,?_⟩;have K2:=K'.set (rec .busy none);refine lm (K2.mv 6).get ?_;refine Ju (K2.mv 7).get ?_;refine (jy (n:=n) K2).mono ?_;rintro v h3 ⟨rfl,K3⟩;rw [aW];refine ⟨lm (K3.mv 6).get rfl,Ju (K3.mv 7).get rfl,?_,?_⟩
   · have:=fo 98 n;rw [show (cu 98 n).size=((⟨#[98,46]⟩:ByteArray)++bT (cU 16 (eY n))).size from rfl,ByteArray.size_append] at this;omega
   have hnext:ed A M.dir ((M.S.map (·.1)).take (i+1)) M.S=ed A M.dir [n] (Ti i):=by
    rw [ax,hn];show ed A M.dir ((M.S.map (·.1)).take i++[n]) M.S=_;rw [AF.m9,hok]
   refine (wX (name:=cu 98 n) W hd (by rw [fo]; decide) (K3.mv 11)).mono ?_;rintro v h4 (⟨bs,a2,c2,hg,hb8,hbl,rfl,K4⟩ | ⟨e,hg,e0,rfl,K4⟩)
   · -- own,fs,L,D,rise,log,tF,tD,b0,b1,b2,b3,b8,F
     have hok2:ed A M.dir ((M.S.map (·.1)).take (i+1)) M.S=.ok (bR n bs (Ti i)):=by
      rw [hnext,AF.kO,hg]
      rfl
     have hTn:Ti (i+1)=bR n bs (Ti i):=hTi _ _ hok2;refine ⟨a2,bs.length,c2,0,rfl,?_⟩;rw [show ((0:Int)!=0)=false from rfl,aa];refine lm (K4.mv 12).get ?_;rw [aP];refine lf (x:=ms) (K4.mv 5) rfl ?_;have K5:=dX (S:=Bs bs (.slice a2 bs.length c2)) (fun h hR=>⟨a2,c2,rfl,hR⟩) (p8 K4);refine zu (kt:=2) (et:=31) (x:=bs) (by kernel_rfl) (by kernel_rfl) hnd hx (K5.ordT 13 [4,0,1,2,3,5,6,7,8,9,10,11,12]) fun h5 K6=>?_;refine hgo h5 ?_;have P1:ed A M.dir ((M.S.map (·.1)).take (i+1)) M.S=.ok (Ti (i+1)):=by rw [hok2,hTn]
     have K7:=(bh.2 ⟨P1,K6.ordT 12 [2,3,0,4,5,6,7,8,9,10,11,1]⟩).bk 3;rw [← hTn] at K7;exact K7
   · -- fs,L,D,rise,log,tF,tD,b0,b1,b2,b3,b8,F
     refine ⟨none,0,0,(e:Int),rfl,?_⟩;rw [bo e0,ab];have hfail:ed A M.dir (M.S.map (·.1)) M.S=.error e:=by
      have h2:=AF.m9 A M.dir ((M.S.map (·.1)).take (i+1)) ((M.S.map (·.1)).drop (i+1)) M.S;rw [take_append_drop,hnext,AF.kO,hg] at h2;exact h2
     refine bQ (K4.mv 9) (show 0<1 by decide) rfl fun h5 K5=>?_;refine bQ (K5.mv 10) (show 0<1 by decide) rfl fun h6 K6=>?_;refine hstop .ret h6 ?_;have K8:=bh.2 ⟨(⟨hfail,e0⟩:ed A M.dir (M.S.map (·.1)) M.S=.error e∧e≠0),K6.ordT 12 [1,0,3,4,2]⟩;have K9:aD (mu (fun e:Nat=>cr [iJ (ed A M.dir (M.S.map (·.1)) M.S=.error e∧e≠0),pt b2 (.cells #[.pointer none] 27 (0,0)),pt b3 (.cells #[.int .i64 (e:Int)] 24 (0,0))])::pt L (rec .busy none)::cK h1.size::co fsb A::F) h6:=
      bg.2 ⟨e,aD.shut (m:=[_,_,_]) K8⟩
     exact (bh.2 ⟨(rfl:Code.ret=.ret),K9⟩).ordT 4 [2,3,0,1]
 · intro h2 K;refine ⟨.inl rfl,fun _=>?_,fun e=>by cases e⟩;obtain ⟨hok,K'⟩:=bh.1 (K.mv 2);have htl:(M.S.map (·.1)).take s.length=M.S.map (·.1):=ar (by rw [an]; omega);rw [htl] at hok;have K2:=(i2 (K'.mv 1)).bk 1;refine lm (K2.mv 9).get ?_;refine bQ (K2.mv 7) (show 0<1 by decide) rfl fun h3 K3=>?_;refine bQ ((K3.bk 7).mv 8) (show 0<1 by decide) rfl fun h4 K4=>?_;have K5:=K4.bk 8;refine ⟨K5.get,?_⟩;have K6:=K5.set (.deferred none);refine lm (x:=b) (K6.mv 7).get ?_;refine pS (K6.mv 8).get ?_;refine hQ _ _ (.inl ⟨_,hok,rfl,?_⟩);exact dh (M:={ M with S:=Ti s.length }) (K6.ordT 11 [2,1,3,4,10])
 · intro j h2 K;obtain ⟨rfl,K1⟩:=bh.1 (K.mv 1);obtain ⟨e,K2⟩:=bg.1 (K1.mv 1);obtain ⟨⟨he,e0⟩,K3⟩:=bh.1 K2.open;refine ⟨.inr rfl,(fun e=>by cases e),fun _=>?_⟩;have K4:=K3.mv 2;refine ⟨K4.get,?_⟩;have K5:=K4.set (.deferred none);refine L7 (K5.mv 1).get ?_;refine pS (K5.mv 2).get ?_;exact hQ _ _ (.inr ⟨e,he,e0,rfl,K5.ordT 4 [3]⟩)
end
section
variable {F:List aE} {h:Heap} {fsb:Nat} {A:AF.FS} {dir:ByteArray}
def Ct (fsb:Nat) (r:AF.FS×Except Nat bA) (F:List aE) (v:Value) (h':Heap):Prop:=
 (∃ b M,r.2=.ok M∧v=.tuple #[aI b,.int .i64 0]∧aD (cP b fsb M::co fsb r.1::F) h')∨
 (∃ e:Nat,r.2=.error e∧e≠0∧v=.tuple #[.pointer none,.int .i64 (e:Int)]∧aD (co fsb r.1::F) h')
set_option maxHeartbeats 1000000 in
theorem uV (W:A.WF) (hs:A.steps+20000<1099511627776) (hd:dir.size<4611686018427387904) (H:aD (co fsb A::F) h) :
  aC prog 10 [aI fsb,.string dir] h fun v h'=>(AF.gw A dir).1.WF∧Ct fsb (AF.gw A dir) F v h':=by
 apply Jf.ap
 unfold Nu
 refine aQ H fun b0 h1 H1=>?_
 refine aQ H1 fun b1 h2 H2=>?_
 refine aQ H2 fun b2 h3 H3=>?_
 refine aQ H3 fun b3 h4 H4=>?_
 refine lm (H4.mv 3).get ?_
 refine Ju (H4.mv 2).get ?_
 refine (C3 W hs hd (H4.mv 4)).mono ?_
 rintro v h5 ⟨W2,hs2,⟨ks,a,c,hk,hright,hlen,rfl,H5⟩ | ⟨e,hk,e0,rfl,H5⟩⟩
 rotate_left
 · refine ⟨none,0,0,(e:Int),rfl,?_⟩;rw [bo e0,ab];refine bQ (H5.mv 2) (show 0<1 by decide) rfl fun h6 H6=>?_;refine bQ (H6.mv 2) (show 0<1 by decide) rfl fun h7 H7=>?_;refine L7 (H7.mv 1).get ?_;refine pS H7.get ?_;exact ⟨W2,.inr ⟨e,by unfold AF.gw; rw [hk],e0,rfl,H7.ordT 5 [2]⟩⟩
 refine ⟨a,ks.length,c,0,rfl,?_⟩
 rw [show ((0:Int)!=0)=false from rfl,aa]
 have hopen:AF.gw A dir=((A.prep dir).1,match eI (A.prep dir).1 dir (be ks).2 with
  | .error e=>.error e
  | .ok D=>match eD (A.prep dir).1 dir ((be ks).1.map (·.1)) with
    | .error e=>.error e
    | .ok S=>.ok ⟨dir,S,(be ks).2,D⟩):=by
  unfold AF.gw;rw [hk]
  all_goals rfl
 rw [hopen]
 generalize (A.prep dir).1=B at *
 refine lm (H5.mv 5).get ?_
 refine Ju (H5.mv 4).get ?_
 refine aQ H5 fun b4 h6 H6=>?_
 refine aQ H6 fun b5 h7 H7=>?_
 refine aQ H7 fun b6 h8 H8=>?_
 refine aQ H8 fun b7 h9 H9=>?_
 refine aQ H9 fun b8 h10 H10=>?_
 refine bQ H10 (show 0<1 by decide) rfl fun h11 H11=>?_
 have M1:=j8 (R:=Bs) (H11.mv 4)
 have M2:=j8 (R:=Bb) (M1.mv 4)
 have M3:=j8 (R:=Bs) (M2.mv 4)
 have H12:aD (bP Bs b4 (be (ks.take 0)).1::bP Bb b5 (be (ks.take 0)).2::bP Bs b6 []::pt b7 (.cells (fk fsb dir b4 b5 b6) 82 (0,0))::pt b8 (.cells #[aI b7] 27 (0,0))::aL 9 1 a ks.length c (ks.map Value.string)::co fsb B::pt b3 (.cells #[.int .i64 0] 24 (0,0))::pt b2 (.cells #[.pointer none] 27 (0,0))::pt b1 (.cells #[.string dir] 9 (0,0))::pt b0 (.cells #[aI fsb] 23 (0,0))::F) h11:=M3.ordT 11 [2,1,0,4,3,5,6,7,8,9,10]
 refine aZ.upto ks.length (fun i (s0:Int) h'=>s0=(i:Int)∧i≤ks.length∧aD (bP Bs b4 (be (ks.take i)).1::bP Bb b5 (be (ks.take i)).2::bP Bs b6 []::pt b7 (.cells (fk fsb dir b4 b5 b6) 82 (0,0))::pt b8 (.cells #[aI b7] 27 (0,0))::aL 9 1 a ks.length c (ks.map Value.string)::co fsb B::pt b3 (.cells #[.int .i64 0] 24 (0,0))::pt b2 (.cells #[.pointer none] 27 (0,0))::pt b1 (.cells #[.string dir] 9 (0,0))::pt b0 (.cells #[aI fsb] 23 (0,0))::F) h') (fun s0=>ks.length - s0.toNat) (fun i s0 h' hh=>⟨hh.2.1,by rw [hh.1]; omega⟩) ⟨rfl,au _,H12⟩ ?_ ?_
 · rintro i s0 h' again hi ⟨rfl,_,K⟩ go;rw [af (show ((i:Int)<(ks.length:Int)) by omega),ab];obtain ⟨s,hsi⟩:∃ s,ks[i]? = some s:=⟨_,ah hi⟩
   refine eR (aH (K.mv 5)) rfl hsi fun bb hc=>?_;refine ⟨.string s,hc,s,rfl,?_⟩;refine (C2 (s:=s) K).mono ?_;have hst:=zt hsi;rintro v h12 ⟨K1,⟨cc,n,hk,rfl⟩ | ⟨hk,x,y,rfl⟩⟩
   · refine ⟨(cc:Int),n,true,rfl,?_⟩;rw [ab];by_cases h98:cc=98
     · subst h98;rw [show ((((98:Nat):Int))==98)=true from rfl,ab];refine lm (K1.mv 4).get ?_;rw [aP];refine lf (x:=b4) (K1.mv 3) rfl ?_;have K2:=dX (S:=Bs [] (.slice none 0 0)) (fun h _=>⟨none,0,rfl,rfl⟩) (qE K1);refine mh (kt:=2) (et:=31) (x:=([]:List Nat)) (by kernel_rfl) (by kernel_rfl) ((K2.mv 1)|>.ordT 2 [0,1]) fun h13 K3=>?_;rw [aK (by omega)];refine go _ _ ⟨rfl,by omega,?_⟩;rw [hst];have e:ey (be (ks.take i)) s=(bR n [] (be (ks.take i)).1,(be (ks.take i)).2):=by unfold AF.ey; rw [hk]; exact al rfl
       rw [e];exact K3
     · rw [show ((cc:Int)==98)=false from by rw [beq_eq_false_iff_ne]; omega,aa,ab];refine lm (K1.mv 4).get ?_;rw [aP];refine lf (x:=b5) (K1.mv 3) rfl ?_;have K2:=dX (S:=Bb () (.bool true)) (fun h _=>rfl) (qE K1);refine mh (kt:=2) (et:=4) (x:=()) (by kernel_rfl) (by kernel_rfl) (K2.ordT 3 [2,0,1]) fun h13 K3=>?_;rw [aK (by omega)];refine go _ _ ⟨rfl,by omega,?_⟩;rw [hst];have e:ey (be (ks.take i)) s=((be (ks.take i)).1,bR n () (be (ks.take i)).2):=by unfold AF.ey; rw [hk]; exact ak h98
       rw [e];exact K3.mv 1
   · refine ⟨x,y,false,rfl,?_⟩;rw [aa,aa,aK (by omega)];refine go _ _ ⟨rfl,by omega,?_⟩;rw [hst];have e:ey (be (ks.take i)) s=be (ks.take i):=by unfold AF.ey; rw [hk]
     rw [e];exact K1
 · rintro s0 h' again ⟨rfl,_,K⟩;rw [ae (by omega),aa];rw [take_length] at K;refine lm (K.mv 4).get ?_;have hup:=D5 ks;have hSl:(be ks).1.length<1000000000:=by
    have:=BA ks;omega
   generalize hS0:(be ks).1=S0 at *;generalize hFo:(be ks).2=Fo at *;have K1:aD (cP b7 fsb ⟨dir,S0,Fo,[]⟩::sI (b:=b7) b0 b1 b2 b3 b8 fsb dir B F) h':=dh (M:=⟨dir,S0,Fo,[]⟩) (K.ordT 11 [3,0,1,2,10,9,8,7,4,6]);refine (oD K1).mono ?_;rintro v h12 ⟨rfl,K2⟩;rw [aJ];simp only;have fin:∀ (D:fe) (hh:Heap),eI B dir Fo=.ok D→aD (cP b7 fsb ⟨dir,S0,Fo,D⟩::sI (b:=b7) b0 b1 b2 b3 b8 fsb dir B F) hh→BM b0 b1 b2 b3 b8 hh (fun v h'=>B.WF∧Ct fsb (B,match eI B dir Fo with
    | .error e=>.error e
    | .ok D=>match eD B dir (S0.map (·.1)) with
      | .error e=>.error e
      | .ok S=>.ok ⟨dir,S,Fo,D⟩) F v h'):=fun D hh hD K3=>by
    refine zD (M:=⟨dir,S0,Fo,D⟩) W2 hd hSl K3 fun v h' hO=>⟨W2,?_⟩
    have e1:=AF.pC (A:=B) (dir:=dir) S0 [] hup.1;rw [nil_append] at e1;rw [hD]
    rcases hO with ⟨S,hS,rfl,K4⟩ | ⟨e,hS,e0,rfl,K4⟩
    · dsimp only at hS;rw [e1] at hS
      cases hr:eD B dir (S0.map (·.1)) with
      | error e=>rw [hr] at hS; cases hS
      | ok L=>
        rw [hr] at hS;cases hS;exact .inl ⟨b7,_,rfl,rfl,K4⟩
    · dsimp only at hS;rw [e1] at hS
      cases hr:eD B dir (S0.map (·.1)) with
      | error e=>rw [hr] at hS; cases hS; exact .inr ⟨_,rfl,e0,rfl,K4⟩
      | ok L=>rw [hr] at hS; cases hS
   have out:∀ (e:Nat) (hh:Heap) (X:List aE),eI B dir Fo=.error e→e≠0→aD (pt b3 (.cells #[.int .i64 (e:Int)] 24 (0,0))::pt b2 (.cells #[.pointer none] 27 (0,0))::co fsb B::F) hh→
    Ld hh (Addr.mk b2 0 none) fun v22=>DP v22 fun res4=>Ld hh (Addr.mk b3 0 none) fun v23=>DI .i64 v23 fun res5=>B.WF∧Ct fsb (B,match eI B dir Fo with
    | .error e=>.error e
    | .ok D=>match eD B dir (S0.map (·.1)) with
      | .error e=>.error e
      | .ok S=>.ok ⟨dir,S,Fo,D⟩) F (.tuple #[.pointer res4,.int .i64 res5]) hh:=fun e hh X hD e0 K3=>by
    refine L7 (K3.mv 1).get ?_;refine pS K3.get ?_;rw [hD];exact ⟨W2,.inr ⟨e,rfl,e0,rfl,K3.ordT 2 []⟩⟩
   by_cases hneg:bm Fo<0
   · rw [ae (show ¬ (bm Fo≥0) by omega),aa];exact fin [] _ (al hneg) K2
   · rw [af (show (bm Fo≥0) by omega),ab];unfold sI at K2;refine lm (K2.mv 1).get ?_;refine Ju (K2.mv 2).get ?_;refine (jy (n:=bm Fo) K2).mono ?_;rintro v h13 ⟨rfl,K3⟩;rw [aW];refine ⟨lm (K3.mv 1).get rfl,Ju (K3.mv 2).get rfl,?_,?_⟩
     · have:=fo 102 (bm Fo);rw [show (cu 102 (bm Fo)).size=((⟨#[102,46]⟩:ByteArray)++bT (cU 16 (eY (bm Fo)))).size from rfl,ByteArray.size_append] at this;omega
     have hfg:eI B dir Fo=match B.get dir (cu 102 (bm Fo)) with
      | .error e=>.error e
      | .ok bs=>match dB bs (bm Fo) with
        | none=>.error 70
        | some E=>.ok E:=ak hneg
     refine (wX (name:=cu 102 (bm Fo)) W2 hd (by rw [fo]; decide) (K3.mv 6)).mono ?_;rintro v h14 (⟨bs,a2,c2,hg,hb8,hbl,rfl,K4⟩ | ⟨e,hg,e0,rfl,K4⟩)
     rotate_left
     · -- fs,log,b0,b1,b2,b3,b8,F
       refine ⟨none,0,0,(e:Int),rfl,?_⟩;rw [bo e0,ab];refine bQ (K4.mv 4) (show 0<1 by decide) rfl fun h15 K5=>?_;refine bQ (K5.mv 5) (show 0<1 by decide) rfl fun h16 K6=>?_;exact out e h16 [] (by rw [hfg,hg]) e0 (K6.ordT 7 [0,1,2])
     refine ⟨a2,_,c2,0,rfl,?_⟩;rw [show ((0:Int)!=0)=false from rfl,aa];refine lm (K4.mv 7).get ?_;refine (E7 (last:=bm Fo) hb8 hbl K4).mono ?_;rintro v h15 (⟨mb,D,hD,rfl,K5⟩ | ⟨hD,⟨m,rfl⟩,K5⟩)
     · -- D,fs,log,b0,b1,b2,b3,b8,F
       refine ⟨some mb,true,rfl,lm (K5.mv 7).get rfl,?_⟩;rw [aP,aV];obtain ⟨ms,mf,mm,K6⟩:=eO (K5.mv 2);refine bQ (c':=fk fsb dir ms mf mb) K6 (show 4<5 by decide) rfl fun h16 K7=>?_;refine ⟨rfl,?_⟩;rw [az,aa];have K8:aD (cP b7 fsb ⟨dir,S0,Fo,D⟩::sI (b:=b7) b0 b1 b2 b3 b8 fsb dir B F) h16:=dh (M:=⟨dir,S0,Fo,D⟩) (K7.ordT 11 [0,1,2,4,6,7,8,9,10,5]);exact fin D _ (by rw [hfg,hg]; dsimp only; rw [hD]) K8
     · -- fs,log,b0,b1,b2,b3,b8,F
       refine ⟨m,false,rfl,lm (K5.mv 6).get rfl,?_⟩;rw [aP,aV];obtain ⟨ms,mf,mm,K6⟩:=eO (K5.mv 1);refine bQ (c':=#[aI fsb,.string dir,.map (some ms),.map (some mf),.map m]) K6 (show 4<5 by decide) rfl fun h16 K7=>?_;refine ⟨rfl,?_⟩;rw [aA,ab];refine bQ (K7.mv 7) (show 0<1 by decide) rfl fun h17 K8=>?_;refine bQ (K8.mv 8) (show 0<1 by decide) rfl fun h18 K9=>?_;exact out 70 h18 [] (by rw [hfg,hg]; dsimp only; rw [hD]) (by decide) (K9.ordT 10 [0,1,6])
end
open AF (bA dq bm cu fe dz ey be ed fY jn Gr dB eI eD gw)
section
variable {F:List aE} {h:Heap} {b fsb:Nat} {M:bA} {A:AF.FS}
theorem CV {b0:Nat} {below:Int} {F':List aE} {h':Heap} (c:Nat) (n:Int) (H:aD (pt b0 (.cells #[.int .i64 below] 2 (0,0))::F') h') :
  cB prog (.func (.func 47) #[] #[aI b0]) [.int .u8 (c:Int),.int .i64 n] h' fun v h''=>v=.bool (decide (n<below))∧h''=h':=by
 refine fO ?_
 apply In.ap
 unfold MS
 refine pS H.get ?_
 exact ⟨rfl,rfl⟩
theorem De {below:Int} (W:A.WF) (hs:A.steps+M.S.length+M.Fo.length+10<1099511627776) (hd:M.dir.size<4611686018427387904) (H:aD (cP b fsb M::co fsb A::F) h) :
  aC prog 18 [aI b,.int .i64 below] h (yo b fsb A (M.S.length+M.Fo.length+1) (M.purge A below) F):=by
 apply IM.ap
 unfold Nm
 refine aQ H fun b0 h1 H1=>?_
 rw [show (some (⟨b,0,none⟩:Addr)).isNone=false from rfl,aa]
 refine (wU (p:=fun _ n=>decide (n<below)) (C:=pt b0 (.cells #[.int .i64 below] 2 (0,0))) (F:=F) (fun c n F' h' _ HH=>CV c n HH) W hs hd (H1.ordT 3 [1,2,0])).mono ?_
 rintro v h2 ⟨rfl,W2,hs2,H2⟩
 rw [aJ]
 have e:M.purge A below=if bm (M.remove A fun _ n=>decide (n<below)).2.1.Fo<0 then ((M.remove A fun _ n=>decide (n<below)).1,{ (M.remove A fun _ n=>decide (n<below)).2.1 with D:=[] },(M.remove A fun _ n=>decide (n<below)).2.2) else M.remove A fun _ n=>decide (n<below):=rfl
 rw [e]
 generalize (M.remove A fun _ n=>decide (n<below))=r at *
 refine (oD H2).mono ?_
 rintro v h3 ⟨rfl,H3⟩
 rw [aJ]
 by_cases ht:bm r.2.1.Fo<0
 · rw [af ht,ab,al ht];refine aQ H3 fun b1 h4 H4=>?_;rw [aP];have H5:=j8 (R:=Bs) H4;obtain ⟨ms,mf,mm,H6⟩:=eO (H5.mv 1);refine bQ (c':=fk fsb r.2.1.dir ms mf b1) H6 (show 4<5 by decide) rfl fun h7 H7=>?_;refine ⟨rfl,W2,hs2,?_⟩;exact dh (M:={ r.2.1 with D:=[] }) (H7.ordT 7 [0,1,2,4,5])
 · rw [ae ht,aa,ak ht];exact ⟨rfl,W2,hs2,H3.ordT 3 [0,1]⟩
theorem Dl (H:aD (cP b fsb M::F) h):aC prog 17 [aI b] h fun v h'=>v=.tuple #[.int .i64 (max 0 (bm M.entries)),.bool (decide (0≤bm M.entries))]∧aD (cP b fsb M::F) h':=by
 apply IQ.ap
 unfold Nn
 rw [show (some (⟨b,0,none⟩:Addr)).isNone=false from rfl,aA,ab]
 refine (l9 H).mono ?_
 rintro v h4 ⟨eb,rfl,H4⟩
 rw [bY]
 obtain ⟨ms,H3⟩:=eg H4
 obtain ⟨es,clock,hm,H5⟩:=cx H3
 have I:=eV (H5.mv 1)
 refine eN (k:=2) (e:=31) (by kernel_rfl) H5 H5.get fun r h1 H6=>?_
 rw [bD]
 refine lE hm (fun done=>(done.map (·.1)).foldl max (-1)) (G:=fun _=>kh (dr Bs ms M.entries)::cP b fsb M::F) H6 ?_ ?_
 · intro done h2 hp H6;have e:=lN ((hp.map (·.1)).trans (I.perm hm.nodup));have e2:(List.map (fun x=>x.fst) done).foldl max (-1)=bm M.entries:=e;rw [e2];refine ⟨?_,H6.ordT 3 [2]⟩;have e3:(if (0:Int)>bm M.entries then 0 else bm M.entries)=max 0 (bm M.entries):=by split <;> omega
   rw [e3]
 · rintro o done k v h2 again ⟨rest,hp⟩ H6 hag;refine ⟨k,v,rfl,?_⟩;have:=hag h2 H6;have e:((done++[(k,v)]).map (·.1)).foldl max (-1)=if k>(done.map (·.1)).foldl max (-1) then k else (done.map (·.1)).foldl max (-1):=by
    rw [map_append,foldl_append];show max _ k=_;split <;> omega
   rw [e] at this;exact this
end
structure jT (n:Nat) (M:bA):Prop where
 upS:gQ M.S
 upF:gQ M.Fo
 upD:gQ M.D
 okS:∀ p∈M.S,Ae p
 okF:∀ p∈M.Fo,EK p.1
 okD:∀ p∈M.D,Ae p
 lenS:M.S.length≤n
 lenF:M.Fo.length≤n
 wtD:oG M.D≤400000000
 top:bm M.Fo=bm M.D
theorem jT.more {n k:Nat} {M:bA} (O:jT n M) (h:n≤k):jT k M:=⟨O.upS,O.upF,O.upD,O.okS,O.okF,O.okD,Nat.le_trans O.lenS h,Nat.le_trans O.lenF h,O.wtD,O.top⟩
theorem gQ.sub {α:Type} {T U:List (Int×α)} (h:gQ U) (s:T.Sublist U):gQ T:=List.Pairwise.sublist s h
theorem D2 {α β:Type} {T:List (Int×α)} {U:List (Int×β)} (h:gQ T) (e:U.map (·.1)=T.map (·.1)):gQ U:=by
 have a:(T.map (·.1)).Pairwise fun x y=>x<y:=List.pairwise_map.2 h
 rw [← e] at a
 exact List.pairwise_map.1 a
section
variable {n:Nat} {M:bA} {A:AF.FS}
theorem vN {dir:ByteArray} (W:(A.prep dir).1.WF) {M:bA} (h:(AF.gw A dir).2=.ok M):jT 4096 M∧M.dir=dir:=by
 unfold AF.gw at h
 dsimp only at h
 split at h
 · cases h
 · rename_i ks hks;split at h
   · cases h
   · rename_i D hD;split at h
     · cases h
     · rename_i S hS;cases h;have hup:=AF.yB W hks;have hfew:=AF.lH W (AF.oQ hks);obtain ⟨e1,e2,u1,u2⟩:=oM _ ks rfl hup;obtain ⟨a,b,c,d⟩:=AF.xI hD;have hk1:(be ks).1.map (·.1)=cM 98 ks:=by rw [e1,map_map]; exact List.map_id _
       rw [hk1] at hS;obtain ⟨k1,k2⟩:=AF.qH W _ _ hS mo;have l1:=jl 98 ks;have l2:=jl 102 ks;refine ⟨⟨?_,?_,a,k2,?_,b,?_,?_,by dsimp only; omega,d.symm⟩,rfl⟩
       · exact D2 u1 (by rw [k1,map_map]; exact (List.map_id _).symm)
       · rw [e2]; exact u2
       · rw [e2];intro p hp;obtain ⟨m,hm,rfl⟩:=List.mem_map.1 hp;exact mo m hm
       · have:=congrArg List.length k1;rw [an] at this;dsimp only;omega
       · rw [e2,an];omega
namespace AF
theorem pe {id:Int}:(M.get id=none∧cg M.D id=none∧cg M.S id=none)∨∃ x,M.get id=some x∧(cg M.D id=some x∨cg M.D id=none∧cg M.S id=some x):=by
 unfold bA.get
 cases cg M.D id with
 | some x=>exact .inr ⟨x,rfl,.inl rfl⟩
 | none=>cases h:cg M.S id with
   | none=>exact .inl ⟨rfl,rfl,rfl⟩
   | some x=>exact .inr ⟨x,rfl,.inr ⟨rfl,rfl⟩⟩
end AF
theorem jT.get (O:jT n M) {id:Int} {x:List Nat} (h:M.get id=some x):B8 x∧x.length≤16777216:=by
 rcases AF.pe (M:=M) (id:=id) with ⟨h0,_⟩ | ⟨y,hy,h1⟩
 · rw [h0] at h; cases h
 · rw [hy] at h;cases h
   rcases h1 with h1 | ⟨_,h1⟩
   · exact (O.okD _ (fM h1)).2
   · exact (O.okS _ (fM h1)).2
theorem jT.upE (O:jT n M):gQ M.entries:=AF.rx O.upS
theorem jT.getE (O:jT n M) (k:Int):cg M.entries k=M.get k:=by
 unfold AF.bA.entries AF.bA.get
 rw [AF.pf O.upD]
 cases cg M.D k <;> rfl
theorem jT.memE (O:jT n M) {p:Int×List Nat} (h:p∈M.entries):p∈M.D∨p∈M.S:=by
 have h1:=cZ O.upE (k:=p.1) (x:=p.2) h
 rw [O.getE] at h1
 rcases AF.pe (M:=M) (id:=p.1) with ⟨h0,_⟩ | ⟨y,hy,h2⟩
 · rw [h0] at h1; cases h1
 · rw [hy] at h1;cases h1
   rcases h2 with h2 | ⟨_,h2⟩
   · exact .inl (fM h2)
   · exact .inr (fM h2)
theorem jT.okE (O:jT n M):∀ p∈M.entries,Ae p:=fun p hp=>by
 rcases O.memE hp with h | h
 · exact O.okD p h
 · exact O.okS p h
theorem vg (k:Int) (x:List Nat):∀ T:fe,oG (bR k x T)≤oG T+(40+x.length)
 | []=>by unfold bR; rw [eQ]; exact Nat.le_of_eq (Nat.add_comm _ _)
 | p::T=>by
   have ih:=vg k x T;unfold bR;split
   · rw [eQ,eQ]; dsimp only; omega
   · split
     · rw [eQ]; dsimp only; omega
     · rw [eQ,eQ]; omega
theorem qh:∀ (D T:fe),oG (dq T D)≤oG T+oG D
 | [],T=>by unfold dq; exact av _
 | p::D,T=>by
   have h1:=qh D (bR p.1 p.2 T);have h2:=vg p.1 p.2 T;have e:dq T (p::D)=dq (bR p.1 p.2 T) D:=rfl;rw [e,eQ];omega
theorem tW {w:Nat}:∀ E:fe,(∀ p∈E,p.2.length≤w)→oG E≤E.length*(40+w)
 | [],_=>au _
 | p::E,h=>by
   have h1:=tW E fun q hq=>h q (aB _ hq);have h2:=h p (mem_cons_self ..);rw [eQ,ao,Nat.succ_mul];omega
theorem jT.wt (O:jT n M) (hn:n≤10000):oG M.entries≤200000000000:=by
 have h1:=qh M.D M.S
 have h2:=tW (w:=16777216) M.S fun p hp=>(O.okS p hp).2.2
 have h3:M.S.length*(40+16777216)≤10000*(40+16777216):=Nat.mul_le_mul_right _ (Nat.le_trans O.lenS hn)
 have h4:=O.wtD
 have e:M.entries=dq M.S M.D:=rfl
 rw [e]
 omega
theorem qR (m:Nat) (h:m<34359738368):(gd m).length≤5:=fy 4 m h
theorem oS {E:fe} (hb:∀ p∈E,p.2.length≤16777216) (hl:E.length<34359738368):(AF.bC E).length≤5+oG E:=by
 unfold AF.bC oU
 rw [am,an]
 have h1:=qR E.length hl
 have h2:((E.map fun p=>(sb (AF.lK p.1),p.2)).flatMap gM).length≤oG E:=by
  clear h1 hl
  induction E with
  | nil=>exact av _
  | cons p E ih=>
    have:=ih fun q hq=>hb q (aB _ hq);rw [map_cons,flatMap_cons,am,eQ];have h3:(gM (sb (AF.lK p.1),p.2)).length≤40+p.2.length:=by
     unfold gM dV;have a1:=AF.jL p.1;have a2:=qR (sb (AF.lK p.1)).length (by omega);have a3:=qR p.2.length (by have:=hb p (mem_cons_self ..); omega);simp only [am];omega
    omega
 omega
theorem zg {E:fe}:oG E≤3*(AF.bC E).length:=by
 unfold AF.bC oU
 rw [am]
 have h2:oG E≤3*((E.map fun p=>(sb (AF.lK p.1),p.2)).flatMap gM).length:=by
  induction E with
  | nil=>exact av _
  | cons p E ih=>
    rw [map_cons,flatMap_cons,am,eQ];have h3:16+p.2.length≤(gM (sb (AF.lK p.1),p.2)).length:=by
     unfold gM dV;have a1:=AF.jL p.1;simp only [am];omega
    omega
 omega
def AF.bA.left (M:bA) (p:Nat→Int→Bool):bA:={ M with S:=M.S.filter (fun q => !p 98 q.1),Fo:=M.Fo.filter (fun q => !p 102 q.1) }
theorem kM (M:bA) (A:AF.FS) (p:Nat→Int→Bool):lL (M.remove A p).2.2∨(M.remove A p).2.1=M.left p:=by
 unfold AF.bA.remove
 dsimp only
 have l1:=AF.jp (dir:=M.dir) (c:=98) (p:=p 98) (M.S.map (·.1)) A M.S false
 have f1:=AF.n8 (dir:=M.dir) (c:=98) (p:=p 98) (M.S.map (·.1)) A M.S false
 generalize fY M.dir 98 (p 98) (M.S.map (·.1)) A M.S false=r at *
 have l2:=AF.jp (dir:=M.dir) (c:=102) (p:=p 102) (M.Fo.map (·.1)) r.1 M.Fo r.2.2.1
 have f2:=AF.n8 (dir:=M.dir) (c:=102) (p:=p 102) (M.Fo.map (·.1)) r.1 M.Fo r.2.2.1
 generalize fY M.dir 102 (p 102) (M.Fo.map (·.1)) r.1 M.Fo r.2.2.1=q at *
 by_cases e1:r.2.2.2=0
 · rw [ak (by omega)];by_cases e2:q.2.2.2=0
   · rw [ak (by omega)];have h1:=l1 e1;have h2:=l2 e2;rw [q4] at h1 h2;right;unfold AF.bA.left;rw [← h1,← h2];split <;> rfl
   · rw [al (by omega)];exact .inl (f2 e2)
 · rw [al (by omega)];exact .inl (f1 e1)
theorem yI (O:jT n M) {p:Nat→Int→Bool} (hw:bm (M.left p).Fo=bm M.D):jT n (M.left p):=by
 have s1:(M.left p).S.Sublist M.S:=filter_sublist ..
 have s2:(M.left p).Fo.Sublist M.Fo:=filter_sublist ..
 exact ⟨O.upS.sub s1,O.upF.sub s2,O.upD,fun q hq=>O.okS q (s1.subset hq),fun q hq=>O.okF q (s2.subset hq),O.okD,Nat.le_trans s1.length_le O.lenS,Nat.le_trans s2.length_le O.lenF,O.wtD,hw⟩
end
namespace AF
theorem Bh {α:Type} {T:List (Int×α)} {k:Int} (hk : -1<k) (hm:∃ p∈T,p.1=k) (hle:∀ p∈T,p.1≤k):bm T=k:=by
 obtain ⟨p,hp,e⟩:=hm
 have h1:=gU hp
 obtain ⟨q,hq,e2⟩:=iT (T:=T) (by omega)
 have h2:=hle q hq
 omega
end AF
section
variable {n:Nat} {M:bA} {A:AF.FS}
theorem BG (O:jT n M) {id:Int} {b:List Nat} (h8:B8 b) (hb:b.length≤16777216):jT (n+1) (M.put A id b).2.1∧(M.put A id b).2.1.dir=M.dir:=by
 have O1:=O.more (Nat.le_succ n)
 unfold AF.bA.put
 split
 · exact ⟨O1,rfl⟩
 · rename_i LJ;split
   · exact ⟨O1,rfl⟩
   · split
     · have hl:=(AF.eS id b M.S).1;refine ⟨⟨il O.upS,O.upF,O.upD,fun p hp=>?_,O.okF,O.okD,?_,O1.lenF,O.wtD,O.top⟩,rfl⟩
       · rcases (cY O.upS).1 hp with rfl | hp
         · exact ⟨⟨by dsimp only; omega,by dsimp only; omega⟩,h8,hb⟩
         · exact O.okS p hp.2
       · have:=O.lenS;dsimp only;omega
     · exact ⟨O1,rfl⟩
theorem GO (W:A.WF) (h8:∀ b,B8 b→True) {id:Int} {s:ByteArray}:(M.put A id (sb s)).1.WF∧Gr 6 A (M.put A id (sb s)).1:=by
 have T:=AF.qI M.dir (cu 98 id) s W
 unfold AF.bA.put
 split
 · exact ⟨W,Gr.same _ A⟩
 · split
   · exact ⟨W,Gr.same _ A⟩
   · split
     · exact T
     · exact T
theorem oO (M:bA) (A:AF.FS) (p:Nat→Int→Bool):Gr (M.S.length+M.Fo.length+1) A (M.remove A p).1∧(M.remove A p).2.1.dir=M.dir:=by
 unfold AF.bA.remove
 dsimp only
 have g1:=AF.uC (dir:=M.dir) (c:=98) (p:=p 98) (M.S.map (·.1)) A M.S false
 generalize fY M.dir 98 (p 98) (M.S.map (·.1)) A M.S false=r at *
 have g2:=AF.uC (dir:=M.dir) (c:=102) (p:=p 102) (M.Fo.map (·.1)) r.1 M.Fo r.2.2.1
 generalize fY M.dir 102 (p 102) (M.Fo.map (·.1)) r.1 M.Fo r.2.2.1=q at *
 rw [an] at g1 g2
 have g3:=AF.kU q.1 M.dir
 split
 · exact ⟨g1.le (by omega),rfl⟩
 · split
   · exact ⟨(g1.trans g2).le (by omega),rfl⟩
   · split
     · exact ⟨((g1.trans g2).trans g3).le (by omega),rfl⟩
     · exact ⟨(g1.trans g2).le (by omega),rfl⟩
theorem BI (M:bA) (A:AF.FS) (below:Int):Gr (M.S.length+M.Fo.length+1) A (M.purge A below).1∧(M.purge A below).2.1.dir=M.dir:=by
 have g:=oO M A fun _ n=>decide (n<below)
 unfold AF.bA.purge
 dsimp only
 split
 · exact g
 · exact g
theorem xq (O:jT n M) (below:Int):lL (M.purge A below).2.2∨jT n (M.purge A below).2.1:=by
 have hc:=kM M A fun _ n=>decide (n<below)
 have e:M.purge A below=if bm (M.remove A fun _ n=>decide (n<below)).2.1.Fo<0 then ((M.remove A fun _ n=>decide (n<below)).1,{ (M.remove A fun _ n=>decide (n<below)).2.1 with D:=[] },(M.remove A fun _ n=>decide (n<below)).2.2) else M.remove A fun _ n=>decide (n<below):=rfl
 rw [e]
 generalize (M.remove A fun _ n=>decide (n<below))=r at *
 by_cases ht:bm r.2.1.Fo<0
 · rw [al ht];dsimp only
   rcases hc with hc | hc
   · exact .inl hc
   · right;rw [hc] at ht ⊢;have s1:(M.left fun _ n=>decide (n<below)).S.Sublist M.S:=filter_sublist ..;have s2:(M.left fun _ n=>decide (n<below)).Fo.Sublist M.Fo:=filter_sublist ..;have hg:=AF.Bg (M.left fun _ n=>decide (n<below)).Fo;refine ⟨O.upS.sub s1,O.upF.sub s2,List.Pairwise.nil,fun q hq=>O.okS q (s1.subset hq),fun q hq=>O.okF q (s2.subset hq),(fun q hq=>by cases hq),Nat.le_trans s1.length_le O.lenS,Nat.le_trans s2.length_le O.lenF,(show (0:Nat)≤400000000 from au _),?_⟩;have e1:bm ([]:fe) = -1:=rfl;dsimp only;omega
 · rw [ak ht]
   rcases hc with hc | hc
   · exact .inl hc
   · right;rw [hc] at ht ⊢;refine yI O ?_;have s2:(M.left fun _ n=>decide (n<below)).Fo.Sublist M.Fo:=filter_sublist ..;obtain ⟨q,hq,e1⟩:=AF.iT (T:=(M.left fun _ n=>decide (n<below)).Fo) (by omega);have hqF:=s2.subset hq;have h1:=AF.gU hqF;have hqb:¬ q.1<below:=by
      have:=(List.mem_filter.1 hq).2;simpa using this
     have h2:=(O.okF q hqF).1;obtain ⟨t,hT,e2⟩:=AF.iT (T:=M.Fo) (by omega);have htl:t∈(M.left fun _ n=>decide (n<below)).Fo:=List.mem_filter.2 ⟨hT,by
      have:¬ t.1<below:=by omega
      simp [this]⟩
     have h3:=AF.gU htl;rw [← O.top];omega
theorem qv (O:jT n M) (m:Int) {last:Int} (h:bm (M.entries.filter fun p=>decide (p.1≤m))=last) (h0:0≤last) :
  last≤m∧(∃ p∈M.entries,p.1=last)∧(M.entries.filter fun p=>decide (p.1≤last))=M.entries.filter (fun p=>decide (p.1≤m))∧bm (M.entries.filter fun p=>decide (p.1≤last))=last:=by
 obtain ⟨q,hq,e⟩:=AF.iT (T:=M.entries.filter fun p=>decide (p.1≤m)) (by omega)
 have hqm:=(List.mem_filter.1 hq).2
 simp only [decide_eq_true_eq] at hqm
 have e1:(M.entries.filter fun p=>decide (p.1≤last))=M.entries.filter (fun p=>decide (p.1≤m)):=by
  apply filter_congr;intro p hp;by_cases hpm:p.1≤m
  · have hin:p∈M.entries.filter (fun p=>decide (p.1≤m)):=List.mem_filter.2 ⟨hp,by simpa using hpm⟩;have:=AF.gU hin;rw [af hpm,af (by omega)]
  · rw [ae hpm,ae (by omega)]
 refine ⟨by omega,⟨q,(List.mem_filter.1 hq).1,by omega⟩,e1,?_⟩
 rw [e1,h]
theorem px (O:jT n M) {m last:Int} (hm:bm M.Fo≤m) (h:bm (M.entries.filter fun p=>decide (p.1≤m))=last) (h0:0≤last):bm M.Fo≤last:=by
 by_cases hneg:bm M.Fo<0
 · omega
 · rw [O.top] at hneg hm ⊢;obtain ⟨q,hq,e⟩:=AF.iT (T:=M.D) (by omega);have h1:=cZ O.upD (k:=q.1) (x:=q.2) hq;have h2:cg M.entries q.1=some q.2:=by
    rw [O.getE];unfold AF.bA.get;rw [h1]
   have h3:=fM h2;have h4:(q.1,q.2)∈M.entries.filter fun p=>decide (p.1≤m):=List.mem_filter.2 ⟨h3,by dsimp only; simp; omega⟩;have:=AF.gU h4;dsimp only at this;omega
abbrev lj (last:Int):Nat→Int→Bool:=fun c n=>if c=98 then decide (n≤last) else decide (n≠last)
theorem zT (O:jT n M) (upto:Int):(lL (M.fold A upto).2.2∨jT (n+1) (M.fold A upto).2.1)∧(M.fold A upto).2.1.dir=M.dir:=by
 have O1:=O.more (Nat.le_succ n)
 unfold AF.bA.fold
 dsimp only
 generalize hm:max upto (bm M.Fo)=m
 generalize hlast:bm (M.entries.filter fun p=>decide (p.1≤m))=last
 split
 · exact ⟨.inr O1,rfl⟩
 · rename_i hl0;split
   · exact ⟨.inr O1,rfl⟩
   · split
     · exact ⟨.inr O1,rfl⟩
     · rename_i hbig;split
       · exact ⟨.inr O1,rfl⟩
       · obtain ⟨f1,f2,f3,f4⟩:=qv O m hlast (by omega);have hc:=kM { M with Fo:=bR last () M.Fo,D:=M.entries.filter fun p=>decide (p.1≤last) } (A.put M.dir (cu 102 last) (AF.bC (M.entries.filter fun p=>decide (p.1≤m)))).1 (lj last);have hdir:=(oO { M with Fo:=bR last () M.Fo,D:=M.entries.filter fun p=>decide (p.1≤last) } (A.put M.dir (cu 102 last) (AF.bC (M.entries.filter fun p=>decide (p.1≤m)))).1 (lj last)).2;refine ⟨?_,hdir⟩
         rcases hc with hc | hc
         · exact .inl hc
         · right;refine Eq.mpr (congrArg (jT (n+1)) hc) ?_;obtain ⟨q,hq,eq⟩:=f2;have hN:EK last:=by rw [← eq]; exact (O.okE q hq).1
           have hl:=(AF.eS last () M.Fo).1;have hD:∀ p∈M.entries.filter (fun p=>decide (p.1≤last)),Ae p:=fun p hp=>O.okE p (List.mem_filter.1 hp).1;have hw:=zg (E:=M.entries.filter fun p=>decide (p.1≤m));have Q:jT (n+1) { M with Fo:=bR last () M.Fo,D:=M.entries.filter fun p=>decide (p.1≤last) }:=by
            refine ⟨O.upS,il O.upF,O.upE.sub (filter_sublist ..),O.okS,fun p hp=>?_,hD,O1.lenS,?_,?_,?_⟩
            · rcases (cY O.upF).1 hp with rfl | hp
              · exact hN
              · exact O.okF p hp.2
            · have:=O.lenF;dsimp only;omega
            · dsimp only;rw [f3];omega
            · dsimp only;rw [f4];refine AF.Bh (by omega) ⟨(last,()),(cY O.upF).2 (.inl rfl),rfl⟩ fun p hp=>?_
              rcases (cY O.upF).1 hp with rfl | hp
              · exact Int.le_refl _
              · have h1:=AF.gU hp.2;have h2:=px O (by omega) hlast (by omega);omega
           refine yI Q ?_;dsimp only [AF.bA.left];rw [f4];refine AF.Bh (by omega) ⟨(last,()),List.mem_filter.2 ⟨(cY O.upF).2 (.inl rfl),by simp⟩,rfl⟩ fun p hp=>?_;have:=(List.mem_filter.1 hp).2;simp at this;omega
theorem Ev (W:A.WF) (O:jT n M) (upto:Int):Gr (M.S.length+M.Fo.length+10) A (M.fold A upto).1:=by
 unfold AF.bA.fold
 dsimp only
 generalize hm:max upto (bm M.Fo)=m
 generalize hlast:bm (M.entries.filter fun p=>decide (p.1≤m))=last
 have h8:B8 (AF.bC (M.entries.filter fun p=>decide (p.1≤m))):=AF.oT fun p hp=>(O.okE p (List.mem_filter.1 hp).1).2.1
 have T:=(AF.qI M.dir (cu 102 last) (bT (AF.bC (M.entries.filter fun p=>decide (p.1≤m)))) W).2
 rw [bM h8] at T
 split
 · exact Gr.same _ A
 · split
   · exact Gr.same _ A
   · split
     · exact Gr.same _ A
     · split
       · exact T.le (by omega)
       · have g:=(oO { M with Fo:=bR last () M.Fo,D:=M.entries.filter fun p=>decide (p.1≤last) } (A.put M.dir (cu 102 last) (AF.bC (M.entries.filter fun p=>decide (p.1≤m)))).1 (lj last)).1;have hl:=(AF.eS last () M.Fo).1;exact (T.trans g).le (by dsimp only; omega)
end
end Go.Proofs.YtmemjbiijclbdaaGreat
