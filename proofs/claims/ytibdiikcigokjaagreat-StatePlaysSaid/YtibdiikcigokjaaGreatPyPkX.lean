/- The document's answer on tables (seat T). -/
import Derived.Test.YtibdiikcigokjaaGreatPyPgX
import Derived.Test.YtibdiikcigokjaaGreatPyPjX
namespace Go.Proofs.YtibdiikcigokjaaGreat.TS
open Go.Builtin (append_)
open Go.IntKind (wrap)
open Go.Proofs.Tryz (prog)
open List (foldl_append append_assoc filter_eq_self filter_cons map_cons flatMap_cons append_nil not_mem_nil take_length mem_cons_self foldl_cons drop_of_length_le drop_eq_getElem?_toList_append)
open Go Go.RowKit
open Tb (T get set del Up nj)
open AF (dF bp bB bZ)
set_option linter.unusedVariables false
set_option linter.unusedSimpArgs false
abbrev Pr:=ByteArray×ByteArray
abbrev pairC (p:Pr):List Value:=[.string p.1,.string p.2]
section
variable {h:Heap} {F:List aG} {a:Option Addr} {n c:Nat} {l:T VT}
theorem oH {xs:List Pr} {x:Pr} {K:Heap→Option Addr→Nat→Nat→Prop} (hl:xs.length=n) (hb:n<2199023255552) (H:aD (aL 50 2 a n c (xs.flatMap pairC)::F) h)
  (hK:∀ a' c' h',aD (aL 50 2 a' (n+1) c' ((xs++[x]).flatMap pairC)::F) h'→K h' a' (n+1) c') :
  Al h (.cells #[.string x.1,.string x.2] 50) fun b1 h1=>bi prog (append_ #[41,41] 41 #[.slice a n c,.slice (some (Addr.mk b1 0 none)) 1 1]) h1 fun r h2=>aX r fun a' l' c'=>K h2 a' l' c':=by
 refine gx (f:=pairC) (sz:=2) (by_:=32) (x:=x) (by kernel_rfl) (by kernel_rfl) (by kernel_rfl) (fun _=>rfl) (fun v hv=>?_) rfl hl (by omega) H hK
 simp only [ay,not_mem_nil,or_false] at hv
 rcases hv with rfl | rfl <;> rfl
abbrev EU (F:List aG) (a:Option Addr) (l:T VT):Prop:=∀ h',aD F h'→dw h' a (l.flatMap pairC)
def xF (k v:ByteArray):T VT→T VT
 | []=>[(k,v)]
 | p::l=>if dF p.1 k=true then p::xF k v l else (k,v)::del (p::l) k
theorem yL (k v:ByteArray):∀ {l:T VT},Up l→xF k v l=set k v l
 | [],_=>rfl
 | p::l,U=>by
   have hall:∀ {m:T VT},(∀ q∈m,q.1≠k)→del m k=m:=fun {m} hm=>by
    unfold Tb.del;rw [filter_eq_self];intro q hq;simp [hm q hq]
   unfold xF Tb.set;by_cases e:p.1=k
   · have h1:¬ dF p.1 k=true:=fun h=>Tb.pA h e;rw [ak h1,al e];have h2:del (p::l) k=del l k:=by
      unfold Tb.del;rw [filter_cons,ak (by simp [e])]
     rw [h2,hall fun q hq e2=>Tb.pA (U.head q hq) (by rw [e,e2])]
   · rw [ak e];by_cases h3:dF k p.1=true
     · have h1:¬ dF p.1 k=true:=fun h=>bp _ (bB h h3);rw [ak h1,al h3,hall];intro q hq e2
       rcases ay.1 hq with rfl | hq
       · exact e e2
       · exact bp k (by have:=bB h3 (U.head q hq); rwa [e2] at this)
     · rw [ak h3,al (bZ (Ne.symm e) h3),yL k v U.tail]
theorem F54_spec {key val:ByteArray} (hr:EU F a l) (hn:l.length=n) (hm:n<1099511627776) (U:Up l) (H:aD F h) :
  aC prog 54 [.slice a n c,.string key,.string val] h fun v h'=>∃ a' n' c',v=.slice a' n' c'∧(set key val l).length=n'∧aD (aL 50 2 a' n' c' ((set key val l).flatMap pairC)::F) h':=by
 apply Jl.ap
 unfold N9
 rw [← yL key val U]
 refine ⟨fun st hh=>∃ (i:Nat) (xs:T VT) (d:Bool),st=(⟨st.1.a,xs.length,st.1.c⟩,d,(i:Int))∧i≤n∧xs.length≤(if d=true then i+1 else i)∧xs++(if d=true then del (l.drop i) key else xF key val (l.drop i))=xF key val l∧aD (aL 50 2 st.1.a xs.length st.1.c (xs.flatMap pairC)::F) hh,
  fun st _=>((n:Int) - st.2.2).toNat,⟨0,[],false,rfl,au _,au _,rfl,bG 50 2 H⟩,?_⟩
 rintro ⟨⟨oa,ol,oc⟩,d,st⟩ h1 ⟨i,xs,d',est,hi,hxl,hxs,H1⟩
 simp only [Prod.mk.injEq,Sl.mk.injEq] at est
 obtain ⟨⟨_,rfl,_⟩,rfl,rfl⟩:=est
 simp only [] at H1 ⊢
 by_cases hlt:i<n
 · rw [af (show ((i:Int)<(n:Int)) by omega),ab];obtain ⟨p,hp⟩:∃ p,l[i]? = some p:=⟨_,ah (by omega)⟩
   have hd:l.drop i=p::l.drop (i+1):=drop_eq_getElem?_toList_append .. |>.trans (by rw [hp]; rfl)
   have wi:wrap .i64 ((i:Int)+1)=((i+1:Nat):Int):=aH (by omega);have hme:((n:Int) - ((i+1:Nat):Int)).toNat<((n:Int) - (i:Int)).toNat:=by omega
   rw [hd] at hxs
   cases d with
   | true=>
     rw [az,aa];rw [al rfl] at hxs hxl;refine ce (f:=pairC) (fun _=>rfl) (by decide) (hr h1 H1.drop) hn hp fun b hb hc=>dl (hc 0 _ rfl) ?_;rw [bO];by_cases e:p.1=key
     · rw [af e,az,aa,wi];refine ⟨⟨i+1,xs,true,rfl,by omega,by rw [al rfl]; omega,?_,H1⟩,hme⟩;rw [al rfl,← hxs];unfold Tb.del;rw [filter_cons,ak (by simp [e])]
     · rw [ae e,aA,ab,wi];refine ce (f:=pairC) (fun _=>rfl) (by decide) (hr h1 H1.drop) hn hp fun b hb hc=>⟨_,hc 0 _ rfl,_,hc 1 _ rfl,p.1,p.2,rfl,?_⟩
       refine oH (x:=p) rfl (by omega) H1 fun a' c' h' H2=>?_;refine ⟨⟨i+1,xs++[p],true,by rw [am]; rfl,by omega,by rw [al rfl,am]; show xs.length+1≤_; omega,?_,by rw [am]; exact H2⟩,hme⟩;rw [al rfl,← hxs,append_assoc];unfold Tb.del;rw [filter_cons,al (by simp [e])]
       rfl
   | false=>
     rw [aA,ab];rw [ak (by decide)] at hxs hxl;refine ce (f:=pairC) (fun _=>rfl) (by decide) (hr h1 H1.drop) hn hp fun b hb hc=>dl (hc 0 _ rfl) ?_;rw [AF.gK]
     cases hlb:dF p.1 key with
     | true=>
       have e:p.1≠key:=Tb.pA hlb;rw [az,aa];refine ce (f:=pairC) (fun _=>rfl) (by decide) (hr h1 H1.drop) hn hp fun b hb hc=>dl (hc 0 _ rfl) ?_;rw [bO,ae e,aA,ab,wi];refine ce (f:=pairC) (fun _=>rfl) (by decide) (hr h1 H1.drop) hn hp fun b hb hc=>⟨_,hc 0 _ rfl,_,hc 1 _ rfl,p.1,p.2,rfl,?_⟩
       refine oH (x:=p) rfl (by omega) H1 fun a' c' h' H2=>?_;refine ⟨⟨i+1,xs++[p],false,by rw [am]; rfl,by omega,by rw [ak (by decide),am]; show xs.length+1≤_; omega,?_,by rw [am]; exact H2⟩,hme⟩;rw [ak (by decide),← hxs,append_assoc];rw [xF,al hlb]
       rfl
     | false=>
       rw [aA,ab];rw [xF,hlb,ak (by decide)] at hxs;refine oH (x:=(key,val)) rfl (by omega) H1 fun a1 c1 h2 H2=>?_;refine ce (f:=pairC) (fun _=>rfl) (by decide) (hr h2 H2.drop) hn hp fun b hb hc=>dl (hc 0 _ rfl) ?_;rw [bO];by_cases e:p.1=key
       · rw [af e,az,aa,wi];refine ⟨⟨i+1,xs++[(key,val)],true,by rw [am]; rfl,by omega,by rw [al rfl,am]; show xs.length+1≤_; omega,?_,by rw [am]; exact H2⟩,hme⟩;rw [al rfl,← hxs,append_assoc];unfold Tb.del;rw [filter_cons,ak (by simp [e])]
         rfl
       · rw [ae e,aA,ab,wi];refine ce (f:=pairC) (fun _=>rfl) (by decide) (hr h2 H2.drop) hn hp fun b hb hc=>⟨_,hc 0 _ rfl,_,hc 1 _ rfl,p.1,p.2,rfl,?_⟩
         refine oH (x:=p) (by rw [am]; rfl) (by omega) H2 fun a' c' h' H3=>?_;refine ⟨⟨i+1,xs++[(key,val)]++[p],true,by rw [am,am]; rfl,by omega,by rw [al rfl,am,am]; show xs.length+1+1≤_; omega,?_,by rw [am,am]; exact H3⟩,hme⟩;rw [al rfl,← hxs,append_assoc,append_assoc];unfold Tb.del;rw [filter_cons,al (by simp [e])]
         rfl
 · rw [ae (by omega),aa];rw [drop_of_length_le (by omega)] at hxs
   cases d with
   | true=>
     rw [az,aa];rw [al rfl,show del ([]:T VT) key=[] from rfl,append_nil] at hxs;exact ⟨oa,xs.length,oc,rfl,by rw [← hxs],by rw [← hxs]; exact H1⟩
   | false=>
     rw [aA,ab];rw [ak (by decide)] at hxs hxl;refine oH (x:=(key,val)) rfl (by omega) H1 fun a' c' h' H2=>?_;exact ⟨a',xs.length+1,c',rfl,by rw [← hxs,am]; rfl,by rw [← hxs]; exact H2⟩
theorem F75_spec {key:ByteArray} (hr:EU F a l) (hn:l.length=n) (hm:n<1099511627776) (H:aD F h) :
  aC prog 75 [.slice a n c,.string key] h fun v h'=>∃ a' n' c',v=.slice a' n' c'∧(del l key).length=n'∧aD (aL 50 2 a' n' c' ((del l key).flatMap pairC)::F) h':=by
 apply I5.ap
 unfold NS
 refine ⟨fun st hh=>∃ (i:Nat) (xs:T VT),st=(⟨st.1.a,xs.length,st.1.c⟩,(i:Int))∧i≤n∧xs.length≤i∧xs++del (l.drop i) key=del l key∧aD (aL 50 2 st.1.a xs.length st.1.c (xs.flatMap pairC)::F) hh,
  fun st _=>((n:Int) - st.2).toNat,⟨0,[],rfl,au _,au _,rfl,bG 50 2 H⟩,?_⟩
 rintro ⟨⟨oa,ol,oc⟩,st⟩ h1 ⟨i,xs,est,hi,hxl,hxs,H1⟩
 simp only [Prod.mk.injEq,Sl.mk.injEq] at est
 obtain ⟨⟨_,rfl,_⟩,rfl⟩:=est
 simp only [] at H1 ⊢
 by_cases hlt:i<n
 · rw [af (show ((i:Int)<(n:Int)) by omega),ab];obtain ⟨p,hp⟩:∃ p,l[i]? = some p:=⟨_,ah (by omega)⟩
   have hd:l.drop i=p::l.drop (i+1):=drop_eq_getElem?_toList_append .. |>.trans (by rw [hp]; rfl)
   have wi:wrap .i64 ((i:Int)+1)=((i+1:Nat):Int):=aH (by omega);have hme:((n:Int) - ((i+1:Nat):Int)).toNat<((n:Int) - (i:Int)).toNat:=by omega
   rw [hd] at hxs;refine ce (f:=pairC) (fun _=>rfl) (by decide) (hr h1 H1.drop) hn hp fun b hb hc=>dl (hc 0 _ rfl) ?_;rw [bO];by_cases e:p.1=key
   · rw [af e,az,aa,wi];refine ⟨⟨i+1,xs,rfl,by omega,by omega,?_,H1⟩,hme⟩;rw [← hxs];unfold Tb.del;rw [filter_cons,ak (by simp [e])]
   · rw [ae e,aA,ab,wi];refine ce (f:=pairC) (fun _=>rfl) (by decide) (hr h1 H1.drop) hn hp fun b hb hc=>⟨_,hc 0 _ rfl,_,hc 1 _ rfl,p.1,p.2,rfl,?_⟩
     refine oH (x:=p) rfl (by omega) H1 fun a' c' h' H2=>?_;refine ⟨⟨i+1,xs++[p],by rw [am]; rfl,by omega,by rw [am]; show xs.length+1≤_; omega,?_,by rw [am]; exact H2⟩,hme⟩;rw [← hxs,append_assoc];unfold Tb.del;rw [filter_cons,al (by simp [e])]
     rfl
 · rw [ae (by omega),aa];rw [drop_of_length_le (by omega),show del ([]:T VT) key=[] from rfl,append_nil] at hxs;exact ⟨oa,xs.length,oc,rfl,by rw [← hxs],by rw [← hxs]; exact H1⟩
end
end Go.Proofs.YtibdiikcigokjaaGreat.TS
namespace Go.Proofs.YtibdiikcigokjaaGreat
open Go.Builtin (append_)
open Go.IntKind (wrap)
open Go.Proofs.Tryz (prog)
open List (foldl_append append_assoc filter_eq_self filter_cons map_cons flatMap_cons append_nil not_mem_nil take_length mem_cons_self foldl_cons drop_of_length_le drop_eq_getElem?_toList_append)
open Go Go.RowKit Go.MapKept
set_option linter.unusedVariables false
set_option linter.unusedSimpArgs false
open AF (cI kZ ln dF)
open TS (Ch gk Diffs dL VT cD dG jd rA)
def fG (ps:gX):Tb.T VT:=TS.ofL ps
theorem lq (ps:gX):Tb.Up (fG ps):=by
 unfold fG TS.ofL
 have:∀ (ps:gX) (l:Tb.T VT),Tb.Up l→Tb.Up (ps.foldl (fun l p=>Tb.set p.1 p.2 l) l):=by
  intro ps
  induction ps with
  | nil=>intro l h; exact h
  | cons p ps ih=>intro l h; exact ih _ (h.set _ _)
 exact this ps [] Tb.Up.nil
theorem rT (ps:gX):∀ p∈fG ps,p∈ps:=by
 unfold fG TS.ofL
 have:∀ (ps:gX) (l:Tb.T VT),∀ p∈ps.foldl (fun l p=>Tb.set p.1 p.2 l) l,p∈ps∨p∈l:=by
  intro ps
  induction ps with
  | nil=>intro l p h; exact .inr h
  | cons q ps ih=>
    intro l p h
    rcases ih _ p h with h | h
    · exact .inl (aB _ h)
    · rcases Tb.pY h with h | h
      · exact .inl (by rw [h]; exact mem_cons_self ..)
      · exact .inr h
 intro p hp
 rcases this ps [] p hp with h | h
 · exact h
 · cases h
theorem j5 (ps:gX):(fG ps).length≤ps.length:=by
 unfold fG TS.ofL
 have:∀ (ps:gX) (l:Tb.T VT),(ps.foldl (fun l p=>Tb.set p.1 p.2 l) l).length≤ps.length+l.length:=by
  intro ps
  induction ps with
  | nil=>intro l; simp
  | cons q ps ih=>
    intro l;have h1:=ih (Tb.set q.1 q.2 l);have h2:=Tb.mO q.1 q.2 l;rw [foldl_cons,ao];omega
 simpa using this ps []
theorem Cp {l:Tb.T VT} (U:Tb.Up l):TS.ofL l=l:=by
 have:∀ (i:Nat),i≤l.length→(l.take i).foldl (fun l p=>Tb.set p.1 p.2 l) []=l.take i:=by
  intro i
  induction i with
  | zero=>intro _; rfl
  | succ i ih=>
    intro hi;obtain ⟨p,hp⟩:∃ p,l[i]? = some p:=⟨_,ah (by omega)⟩
    rw [ax,hp,foldl_append,ih (by omega)];exact ql (qf U hp)
 have h:=this l.length (av _)
 rw [take_length] at h
 exact h
section
variable {F:List aG} {h:Heap} {a:Option Addr} {l c:Nat}
theorem rq {ps:gX} (hr:∀ h',aD F h'→dw h' a (ps.flatMap pairC)) (hl:ps.length=l) (hll:l<1000000) (H:aD F h) :
  aC prog 15 [.slice a l c] h fun v h'=>∃ t,v=aJ t∧aD (dG t (TS.ofL ps)::F) h':=by
 apply J8.ap
 unfold OI
 refine (TS.F34_none H).mono ?_
 rintro v h1 ⟨t,rfl,H1⟩
 refine ⟨some ⟨t,0,none⟩,rfl,?_⟩
 refine aU.upto l (fun i (s:Int) h'=>s=(i:Int)∧i≤l∧aD (dG t (TS.ofL (ps.take i))::F) h') (fun s=>l - s.toNat) (fun i s h' hh=>⟨hh.2.1,by rw [hh.1]; omega⟩) ⟨rfl,au _,H1⟩ ?_ ?_
 · rintro i s h2 again hi ⟨rfl,_,H2⟩ go;rw [af (show ((i:Int)<(l:Int)) by omega),ab];obtain ⟨⟨k,x⟩,hx⟩:∃ x,ps[i]? = some x:=⟨_,ah (by omega)⟩
   refine ce (f:=pairC) (sz:=2) bX (by decide) (hr _ H2.drop) hl hx fun b1 hb1 hc1=>?_;refine ⟨.string k,hc1 0 _ rfl,k,rfl,?_⟩;refine ce (f:=pairC) (sz:=2) bX (by decide) (hr _ H2.drop) hl hx fun b2 hb2 hc2=>?_;refine ⟨.string x,hc2 1 _ rfl,x,rfl,?_⟩;refine (TS.F39_spec (key:=k) (x:=x) H2).mono ?_;rintro r h3 ⟨rfl,H3⟩;refine ⟨rfl,?_⟩;rw [aH (by omega)];refine go _ _ ⟨rfl,by omega,?_⟩;have e:TS.ofL (ps.take (i+1))=Tb.set k x (TS.ofL (ps.take i)):=by
    unfold TS.ofL;rw [ax,hx,foldl_append]
    rfl
   rw [e];exact H3
 · rintro s h2 again ⟨rfl,_,H2⟩;rw [ae (by omega),aa];rw [ar (by omega)] at H2;exact ⟨t,rfl,H2⟩
theorem xg {ps:gX} (hr:∀ h',aD F h'→dw h' a (ps.flatMap pairC)) (hl:ps.length=l) (hll:l<1000000) (H:aD F h) :
  aC prog 17 [.slice a l c] h fun v h'=>∃ a' c',v=.slice a' (fG ps).length c'∧aD (aL 50 2 a' (fG ps).length c' ((fG ps).flatMap pairC)::F) h':=by
 apply J0.ap
 unfold OG
 refine aU.upto l (fun i (s:Sl×Int) h'=>s.2=(i:Int)∧i≤l∧s.1.l=(fG (ps.take i)).length∧aD (aL 50 2 s.1.a s.1.l s.1.c ((fG (ps.take i)).flatMap pairC)::F) h') (fun s=>l - s.2.toNat) (fun i s h' hh=>⟨hh.2.1,by rw [hh.1]; omega⟩) ⟨rfl,au _,rfl,bG 50 2 H⟩ ?_ ?_
 · rintro i ⟨⟨sa,sl,sc⟩,s2⟩ h2 again hi ⟨rfl,_,hsl,H2⟩ go;dsimp only at hsl H2 ⊢;rw [af (show ((i:Int)<(l:Int)) by omega),ab];obtain ⟨⟨k,x⟩,hx⟩:∃ x,ps[i]? = some x:=⟨_,ah (by omega)⟩
   refine ce (f:=pairC) (sz:=2) bX (by decide) (hr _ H2.drop) hl hx fun b1 hb1 hc1=>?_;refine ⟨.string k,hc1 0 _ rfl,k,rfl,?_⟩;refine ce (f:=pairC) (sz:=2) bX (by decide) (hr _ H2.drop) hl hx fun b2 hb2 hc2=>?_;refine ⟨.string x,hc2 1 _ rfl,x,rfl,?_⟩;have hrl:=j5 (ps.take i);rw [aq] at hrl;refine (TS.F54_spec (F:=aL 50 2 sa sl sc ((fG (ps.take i)).flatMap pairC)::F) (l:=fG (ps.take i)) (key:=k) (val:=x) (fun h' hh=>aI hh) hsl.symm (by omega) (lq _) H2).mono ?_;rintro r h3 ⟨a',n',c',rfl,hn',H3⟩;rw [aF,aH (by omega)];have e:fG (ps.take (i+1))=Tb.set k x (fG (ps.take i)):=by
    unfold fG TS.ofL;rw [ax,hx,foldl_append]
    rfl
   refine go _ _ ⟨rfl,by omega,?_,?_⟩
   · dsimp only; rw [e]; exact hn'.symm
   · dsimp only;rw [e];exact (H3.mv 1).drop
 · rintro ⟨⟨sa,sl,sc⟩,s2⟩ h2 again ⟨rfl,_,hsl,H2⟩;dsimp only at hsl H2 ⊢;rw [ae (by omega),aa];rw [ar (by omega)] at H2 hsl;subst hsl;exact ⟨sa,sc,rfl,H2⟩
def pT (ps:gX):Bool:=decide (60<ps.length)||ps.any fun p=>decide (300<p.1.size+p.2.size)
theorem xh {ps:gX} (hr:dw h a (ps.flatMap pairC)) (hl:ps.length=l) (hz:∀ p∈ps,p.1.size≤140737488355328∧p.2.size≤140737488355328) :
  aC prog 16 [.slice a l c] h fun v h'=>v=.bool (pT ps)∧h'=h:=by
 apply J1.ap
 unfold OH
 unfold pT
 by_cases hb:60<l
 · rw [af (show ((l:Int)>60) by omega),ab,hl,af hb];exact ⟨rfl,by trivial⟩
 rw [ae (show ¬ ((l:Int)>60) by omega),aa,hl,ae hb,Bool.false_or]
 refine aU.upto l (fun i (s:Int) h'=>s=(i:Int)∧i≤l∧h'=h∧((ps.take i).any fun p=>decide (300<p.1.size+p.2.size))=false) (fun s=>l - s.toNat) (fun i s h' hh=>⟨hh.2.1,by rw [hh.1]; omega⟩) ⟨rfl,au _,rfl,rfl⟩ ?_ ?_
 · rintro i s h2 again hi ⟨rfl,_,rfl,hno⟩ go;rw [af (show ((i:Int)<(l:Int)) by omega),ab];obtain ⟨⟨k,x⟩,hx⟩:∃ x,ps[i]? = some x:=⟨_,ah (by omega)⟩
   have hxm:=ai hx;obtain ⟨z1,z2⟩:=hz _ hxm;simp only at z1 z2;refine ce (f:=pairC) (sz:=2) bX (by decide) hr hl hx fun b1 hb1 hc1=>?_;refine ⟨.string k,hc1 0 _ rfl,k,rfl,?_⟩;refine ce (f:=pairC) (sz:=2) bX (by decide) hr hl hx fun b2 hb2 hc2=>?_;refine ⟨.string x,hc2 1 _ rfl,x,rfl,?_⟩;dsimp only;rw [← Int.natCast_add,cv (by omega)];by_cases hbig:300<k.size+x.size
   · rw [af (show (((k.size+x.size:Nat):Int)>300) by omega),ab];have:(ps.any fun p=>decide (300<p.1.size+p.2.size))=true:=List.any_eq_true.2 ⟨_,hxm,af hbig⟩;rw [this];exact ⟨rfl,by trivial⟩
   · rw [ae (show ¬ (((k.size+x.size:Nat):Int)>300) by omega),aa,aH (by omega)];refine go _ _ ⟨rfl,by omega,by trivial,?_⟩;rw [ax,hx,List.any_append,hno];simp only [Option.toList_some,List.any_cons,List.any_nil,Bool.or_false,Bool.false_or];exact ae hbig
 · rintro s h2 again ⟨rfl,_,rfl,hno⟩;rw [ae (by omega),aa];rw [ar (by omega)] at hno;rw [hno];exact ⟨rfl,by trivial⟩
end
open AF (cI kZ ln dF fY)
open Frame (cH)
open TS (Ch gk Diffs dL VT cD dG)
theorem xK {ps:gX} {n m:Nat} (hn:ps.length≤n) (hnn:n≤1000000) (hm:∀ p∈ps,p.1.size+p.2.size≤m) (hmm:m≤1000000):(bj ps).length≤5+n*(20+m):=by
 unfold bj qB
 rw [am,an]
 have h1:=dk 4 ps.length (by omega)
 have h2:∀ qs:gX,(∀ p∈qs,p.1.size+p.2.size≤m)→((qs.map fun p=>(sb p.1,sb p.2)).flatMap fO).length≤qs.length*(20+m):=by
  intro qs
  induction qs with
  | nil=>intro _; simp
  | cons p qs ih=>
    intro hq;have h3:=ih fun p hp=>hq p (aB _ hp);have h4:=hq p (mem_cons_self ..);have e1:=dk 4 (sb p.1).length (by rw [aW]; omega);have e2:=dk 4 (sb p.2).length (by rw [aW]; omega);have h6:(fO (sb p.1,sb p.2)).length≤20+m:=by
     unfold fO cT;simp only [am,aW] at *;omega
    rw [map_cons,flatMap_cons,am,ao,Nat.succ_mul];omega
 have h3:=h2 ps hm
 have h4:ps.length*(20+m)≤n*(20+m):=Nat.mul_le_mul_right _ hn
 omega
theorem IG {ps:gX} {n m:Nat} (hn:ps.length≤n) (hnn:n≤1000) (hm:∀ p∈ps,p.1.size+p.2.size≤m) (hmm:m≤900):BF ps∧(bj ps).length≤5+n*(20+m):=by
 have h:=xK hn (by omega) hm (by omega)
 have h2:n*(20+m)≤1000*920:=Nat.mul_le_mul (by omega) (by omega)
 refine ⟨⟨by omega,by omega,fun p hp=>?_⟩,h⟩
 have:=hm p hp
 omega
theorem As {a b:Tb.T VT} {d:List Ch} (D:Diffs a b d):∀ x∈d,(x.1,x.2.1)∈b∨(x.2.1=.empty∧∃ y,(x.1,y)∈a):=by
 intro x hx
 have h1:Tb.get (V:=VT×Bool) d x.1=some x.2:=Tb.f9 D.up.nodup hx
 rw [D.at_] at h1
 unfold TS.dget at h1
 split at h1
 · rename_i y hb;split at h1
   · cases h1
   · rw [Option.some.injEq] at h1;rw [← h1];exact .inl (Tb.gR hb)
 · split at h1
   · rename_i ha;rw [Option.some.injEq] at h1;rw [← h1];obtain ⟨y,hy⟩:=Option.isSome_iff_exists.1 ha;exact .inr ⟨rfl,y,Tb.gR hy⟩
   · cases h1
theorem Au {a b:Tb.T VT} {d:List Ch} {n m:Nat} (D:Diffs a b d) (Ua:Tb.Up a) (Ub:Tb.Up b) (hn:a.length+b.length≤n) (hnn:n≤1000) (ha:∀ p∈a,p.1.size+p.2.size≤m) (hb:∀ p∈b,p.1.size+p.2.size≤m) (hmm:m≤800) :
  BF (bo d)∧(bj (bo d)).length≤5+n*(21+m):=by
 have hl:=D.of_len Ua Ub
 refine (IG (m:=m+1) (n:=n) (by unfold bo; rw [an]; omega) hnn (fun p hp=>?_) (by omega)).imp id fun h=>by rw [show 21+m=20+(m+1) by omega]; exact h
 obtain ⟨x,hx,rfl⟩:=List.mem_map.1 hp
 have hs:x.1.size+x.2.1.size≤m:=by
  rcases As D x hx with h | ⟨e,y,h⟩
  · exact hb _ h
  · have h9:=ha _ h;simp only at h9;rw [e,show (ByteArray.empty).size=0 from rfl];omega
 have e1:mi.size=1:=rfl
 have e2:pl.size=1:=rfl
 have e3:(ByteArray.empty).size=0:=rfl
 unfold kP
 split <;> simp only [ByteArray.size_append,e1,e2,e3] <;> omega
section
variable {F:List aG} {h:Heap} {a b:Option Addr} {l c m e:Nat}
theorem EX (x y:ByteArray×ByteArray):((bL x.1 y.1)&&((bL x.2 y.2)&&true))=decide (x=y):=by
 rw [bO,bO,Bool.and_true]
 obtain ⟨x1,x2⟩:=x
 obtain ⟨y1,y2⟩:=y
 simp only [Prod.mk.injEq]
 by_cases h1:x1=y1 <;> by_cases h2:x2=y2 <;> simp [h1,h2]
end
def kA:ByteArray:=⟨#[97]⟩
def kB:ByteArray:=⟨#[98]⟩
def kX:ByteArray:=⟨#[120]⟩
def kY:ByteArray:=⟨#[121]⟩
end Go.Proofs.YtibdiikcigokjaaGreat
