/- How heaps are dealt: the walk (seat D). -/
import Derived.Test.YtdpaiiibndnanaaGreatDoorQpDl1
import Derived.Test.YtdpaiiibndnanaaGreatDoorQpFwB
import Derived.Test.YtdpaiiibndnanaaGreatDoorQpTm
import Derived.Laws.MakeOwn
namespace Go.Proofs.YtdpaiiibndnanaaGreatDoor
open Go.IntKind (wrap)
open Go.Proofs.Tryz (prog)
open List (length_drop append_assoc map_append map_cons cons_append map_map length_filter_le mem_singleton drop_of_length_le append_nil)
open Go Go.RowKit
open Dl (LP kM bC cnt bF j4 Fits each eU iC l8 fy ik il kr)
set_option linter.unusedVariables false
set_option linter.unusedSimpArgs false
def se (P:Program) (e:TypeId):Bool:=
 match P.info? e with
 | some i=>(match i.zero with
   | some (.int .i64 0)=>true
   | _=>false)&&(i.size==1&&i.bytes==8)
 | none=>false
theorem uU {P:Program} {e:TypeId} (h:se P e=true):∃ i,P.info? e=some i∧i.zero=some (.int .i64 0)∧i.size=1∧i.bytes=8:=by
 unfold se at h
 cases hi:P.info? e with
 | none=>rw [hi] at h; cases h
 | some i=>
   rw [hi] at h;simp only [ay,beq_iff_eq] at h;obtain ⟨hz,h1,h2⟩:=h;refine ⟨i,rfl,?_,h1,h2⟩;split at hz
   · assumption
   · cases hz
theorem kj {P:Program} {t e:TypeId} {n:Nat} {h:Heap} {F:List aF} {K:Value→Heap→Prop} (ht:P.underlying t=some (.slice e)) (hi:se P e=true) (hn:n≤1000000) (H:aG F h)
  (hK:∀ a h',aG (aQ e 1 a n n (List.replicate n (iv 0))::F) h'→K (.slice a n n) h'):bB P (Instr.makeSlice t (.int .i64 (n:Int)) (.int .i64 (n:Int))) h K:=by
 obtain ⟨i,h1,h2,h3,h4⟩:=uU hi
 intro w hw
 subst hw
 have hr:=run_makeSlice (P:=P) w t e i (.int .i64 0) ht h1 h2 .i64 .i64 (n:Int) (n:Int) (by omega) (Int.le_refl _) (by rw [h3,Int.toNat_natCast]; omega) (by rw [h4]; omega) (by omega)
 rw [Int.toNat_natCast,h3,Nat.mul_one] at hr
 refine ⟨_,_,hr,⟨rfl,rfl,rfl⟩,?_⟩
 refine hK _ _ ?_
 have H2:=H.push (.cells (madeCells (Value.cells (.int .i64 0)) n) e)
 refine fe H2 (by intro j hj; simp) (ax _) (by unfold maxLen; omega) (by rw [size_madeCells,Nat.mul_one]) ?_
 rw [Nat.mul_one,av (by simp [madeCells])]
 apply List.ext_getElem
 · simp [madeCells]
 · intro j hj1 hj2;simp [madeCells,Value.cells,Nat.mod_one]
   rfl
theorem cN {la:Option Addr} {ll i:Nat} {s:Int} {hh:Heap} {K:Addr→Prop} {xs:List Value} (hr:cv hh la xs) (hl:xs.length=ll) (hs:xs[i]? = some (iv s))
  (hK:∀ b,bI hh b=some (iv s)→K b):aO la ll (i:Int) 1 K:=
 bj (v:=iv s) hr hl hs fun b hb hc=>hK _ hc
theorem CI {h:Heap} {a:Addr} {x:Int} {K:Int→Prop} (hv:bI h a=some (iv x)) (hK:K x):Ld h a fun v=>DI .i64 v K:=⟨_,hv,by show DI .i64 (.int .i64 x) K; rw [aL]; exact hK⟩
theorem gI (l m:LP):cnt (l++m)=cnt l+cnt m:=by
 unfold Dl.cnt
 rw [List.filter_append,ao]
theorem jI {α:Type} {x y:List α} {p q:α} {j:Nat} (h:x.length=j):(x++p::y).set j q=x++q::y:=by
 subst h
 induction x with
 | nil=>rfl
 | cons a x ih=>rw [cons_append,ar,List.set_cons_succ,ih]; rfl
def zs (hs:List Int):LP:=hs.map fun x=>(x,0)
theorem uu (hs:List Int):(zs hs).map (·.1)=hs:=by
 unfold zs
 rw [map_map]
 exact List.map_id hs
theorem ut (hs:List Int):((zs hs).map fun p=>iv p.2)=List.replicate hs.length (iv 0):=by
 unfold zs
 rw [map_map]
 induction hs with
 | nil=>rfl
 | cons x hs ih=>rw [map_cons,ar,List.replicate_succ,ih]; rfl
theorem rI (hs:List Int):Fits (zs hs):=fun p hp=>by
 obtain ⟨x,_,rfl⟩:=List.mem_map.1 hp
 exact ⟨Int.le_refl _,.inr rfl⟩
abbrev eT (e:TypeId) (a:Option Addr) (n:Nat) (l:LP):aF:=aQ e 1 a n n (l.map fun p=>iv p.2)
theorem Ba {hs:List Int} {a:Option Addr} {n c:Nat} {most:Int} {h:Heap} {F:List aF} (hr:∀ h',aG F h'→cv h' a (hs.map iv)) (hn:hs.length=n) (hm:n≤1000000) (hi:∀ x∈hs,-9223372036854775808≤x∧x≤9223372036854775807) (hmo:most≤9223372036854775807) (H:aG F h) :
  aE prog 9 [.slice a n c,.int .i64 most] h fun v h'=>∃ a' l,v=.slice a' n n∧j4 (zs hs) most l∧l.map (·.1)=hs∧Fits l∧aG (eT 2 a' n l::F) h':=by
 apply FX.ap
 unfold F9
 refine kj (e:=2) (by kernel_rfl) (by kernel_rfl) (by omega) H fun a1 h1 H1=>?_
 rw [aI]
 have hn0:(zs hs).length=n:=by rw [zs,aq,hn]
 refine ⟨fun m hh=>∃ l:LP,l.map (·.1)=hs∧Fits l∧m≤9223372036854775807∧(∀ r,j4 l m r→j4 (zs hs) most r)∧aG (eT 2 a1 n l::F) hh,fun m _=>m.toNat,⟨zs hs,uu hs,rI hs,hmo,fun r h=>h,?_⟩,?_⟩
 · unfold eT;rw [ut,hn];exact H1
 rintro m h2 ⟨l,hl1,hF,hmm,hR,H2⟩
 have hll:l.length=n:=by rw [← hn,← hl1,aq]
 have each1:∀ {i:Nat} {p:Int×Int},l[i]? = some p→hs[i]? = some p.1:=fun {i p} hp=>by rw [← hl1,List.getElem?_map,hp]; rfl
 have bnd:∀ {i:Nat} {p:Int×Int},l[i]? = some p→(-9223372036854775808≤p.1∧p.1≤9223372036854775807)∧0≤p.2∧(p.2≤p.1∨p.2=0):=fun {i p} hp=>⟨hi _ (aj (each1 hp)),hF p (aj hp)⟩
 by_cases hm0:m>0
 case neg=>
  rw [af hm0,ab];exact ⟨a1,l,rfl,hR l (.done (by omega)),hl1,hF,H2⟩
 case pos=>
 rw [ah hm0,ae]
 refine ⟨fun st hh=>hh=h2∧∃ (i:Nat) (least:Int),st=((cnt (l.take i):Int),least,(i:Int))∧i≤n∧1≤least∧least≤m∧∀ p∈l.take i,bC p=true→least≤p.1 - p.2,fun st _=>((n:Int) - st.2.2).toNat,⟨rfl,0,m,rfl,aw _,by omega,Int.le_refl _,fun p hp=>by cases hp⟩,?_⟩
 rintro st h3 ⟨rfl,i,least,rfl,hin,h1l,hlm,hleast⟩
 simp only []
 by_cases hlt:i<n
 case pos=>
  rw [ah (show ((i:Int)<(n:Int)) by omega),ae];obtain ⟨p,hp⟩:∃ p,l[i]? = some p:=⟨_,ai (by omega)⟩
  have hb:=bnd hp;have ht:l.take (i+1)=l.take i++[p]:=by rw [az,hp]; rfl
  have wi:wrap .i64 ((i:Int)+1)=((i+1:Nat):Int):=aN (by omega);have hme:((n:Int) - ((i+1:Nat):Int)).toNat<((n:Int) - (i:Int)).toNat:=by omega
  have hcle:cnt (l.take i)≤i:=Nat.le_trans (length_filter_le _ _) (by rw [au]; omega);refine cN (hr h3 H2.drop) (by rw [aq]; exact hn) (by rw [List.getElem?_map,each1 hp]; rfl) fun b hc=>CI hc ?_;refine cN (s:=p.2) (aH H2) (by rw [aq]; exact hll) (by rw [List.getElem?_map,hp]; rfl) fun b hc=>CI hc ?_;by_cases hpos:p.1>0
  · rw [ah hpos,ae];have ew:wrap .i64 (p.1 - p.2)=p.1 - p.2:=IntWalk.i64_in _ (by omega);rw [ew];by_cases hop:p.1 - p.2>0
    · have ho:bC p=true:=by unfold bC; rw [ah hpos,ah hop]; rfl
      rw [ah hop,ae,wi,aN (by omega)];refine ⟨⟨by trivial,i+1,(if p.1 - p.2<least then p.1 - p.2 else least),?_,by omega,by split <;> omega,by split <;> omega,fun q hq hqo=>?_⟩,hme⟩
      · rw [ht,gI,eU,ho]
        rfl
      · rw [ht] at hq
        rcases List.mem_append.1 hq with hq | hq
        · have:=hleast q hq hqo;split <;> omega
        · rw [mem_singleton] at hq;subst hq;split <;> omega
    · have ho:bC p=false:=by unfold bC; rw [af hop,Bool.and_false]
      rw [af hop,ab,wi];refine ⟨⟨by trivial,i+1,least,?_,by omega,h1l,hlm,fun q hq hqo=>?_⟩,hme⟩
      · rw [ht,gI,eU,ho]
        rfl
      · rw [ht] at hq
        rcases List.mem_append.1 hq with hq | hq
        · exact hleast q hq hqo
        · rw [mem_singleton] at hq;subst hq;rw [ho] at hqo;cases hqo
  · have ho:bC p=false:=by unfold bC; rw [af hpos,Bool.false_and]
    rw [af hpos,ab,wi];refine ⟨⟨by trivial,i+1,least,?_,by omega,h1l,hlm,fun q hq hqo=>?_⟩,hme⟩
    · rw [ht,gI,eU,ho]
      rfl
    · rw [ht] at hq
      rcases List.mem_append.1 hq with hq | hq
      · exact hleast q hq hqo
      · rw [mem_singleton] at hq;subst hq;rw [ho] at hqo;cases hqo
 case neg=>
 rw [af (by omega),ab]
 rw [av (by omega)] at hleast ⊢
 by_cases hc0:cnt l=0
 · rw [hc0,show (((0:Nat):Int)==0)=true from rfl,ae];exact ⟨a1,l,rfl,hR l (.none hc0),hl1,hF,H2⟩
 rw [show (((cnt l:Nat):Int)==0)=false from by simp only [beq_eq_false_iff_ne,ne_eq]; omega,ab]
 have ewd:wrap .i64 (Int.tdiv m (cnt l:Int))=Int.tdiv m (cnt l:Int):=by
  refine IntWalk.i64_in _ ?_;obtain ⟨M,rfl⟩:∃ M:Nat,m=(M:Int):=⟨m.toNat,by omega⟩
  rw [iu];have:=Nat.div_le_self M (cnt l);generalize M / cnt l=d at *;omega
 refine ⟨by omega,?_⟩
 rw [ewd]
 have he:=kr (r:=l) hm0 hc0 h1l hleast
 have heR:=fun r=>(kr (r:=r) hm0 hc0 h1l hleast).2.2
 have hel:=fun p hp ho=>Int.le_trans he.2.1 (hleast p hp ho)
 change bf _ _ _
 have hdef:(if (1:Int)>(if Int.tdiv m (cnt l:Int)<least then Int.tdiv m (cnt l:Int) else least) then 1 else (if Int.tdiv m (cnt l:Int)<least then Int.tdiv m (cnt l:Int) else least))=each m least (cnt l):=rfl
 simp only [hdef]
 generalize each m least (cnt l)=e at *
 refine ⟨fun st hh=>∃ j:Nat,st=((bF e (l.take j) m).2,(j:Int))∧j≤n∧aG (eT 2 a1 n ((bF e (l.take j) m).1++l.drop j)::F) hh,fun st _=>((n:Int) - st.2).toNat,⟨0,rfl,aw _,H2⟩,?_⟩
 rintro st h4 ⟨j,rfl,hjn,H4⟩
 simp only []
 by_cases hlt2:j<n
 case neg=>
  rw [af (by omega),ab];rw [av (by omega),drop_of_length_le (by omega),append_nil] at H4;rw [av (by omega)];have hpl:=(fy e (by omega) l m)
  refine ⟨⟨(bF e l m).1,by rw [iC,hl1],il e (by omega) l m hF hel,by omega,fun r hr=>hR r (heR r hr),H4⟩,?_⟩;have:=hpl.2 hc0 hm0;show ((bF e l m).2).toNat<m.toNat;omega
 case pos=>
 rw [ah (show ((j:Int)<(n:Int)) by omega),ae]
 obtain ⟨p,hp⟩:∃ p,l[j]? = some p:=⟨_,ai (by omega)⟩
 have hb:=bnd hp
 have ht:l.take (j+1)=l.take j++[p]:=by rw [az,hp]; rfl
 have hd:l.drop j=p::l.drop (j+1):=List.drop_eq_getElem?_toList_append .. |>.trans (by rw [hp]; rfl)
 have wj:wrap .i64 ((j:Int)+1)=((j+1:Nat):Int):=aN (by omega)
 have hme:((n:Int) - ((j+1:Nat):Int)).toNat<((n:Int) - (j:Int)).toNat:=by omega
 have hpl:(bF e (l.take j) m).1.length=j:=by rw [l8,au]; omega
 have hlen4:((bF e (l.take j) m).1++l.drop j).length=n:=by rw [ao,hpl,length_drop]; omega
 have hget:((bF e (l.take j) m).1++l.drop j)[j]? = some p:=by rw [List.getElem?_append_right (by omega),hpl,Nat.sub_self,hd]; rfl
 have hsn:=ik e p (l.take j) m
 rw [← ht] at hsn
 have skip:¬ (bC p=true∧(bF e (l.take j) m).2>0)→aG (eT 2 a1 n ((bF e (l.take (j+1)) m).1++l.drop (j+1))::F) h4∧(bF e (l.take (j+1)) m).2=(bF e (l.take j) m).2:=fun hno=>by
  rw [hsn,am hno];refine ⟨?_,rfl⟩;rw [append_assoc];show aG (eT 2 a1 n ((bF e (l.take j) m).1++p::l.drop (j+1))::F) h4;rw [← hd];exact H4
 have hm2:=(fy e (by omega) (l.take j) m).1
 refine cN (hr h4 H4.drop) (by rw [aq]; exact hn) (by rw [List.getElem?_map,each1 hp]; rfl) fun b hc=>CI hc ?_
 by_cases hpos:p.1>0
 case neg=>
  rw [af hpos,ab,wj];obtain ⟨h5,h6⟩:=skip (fun h=>by unfold bC at h; rw [af hpos,Bool.false_and] at h; cases h.1);exact ⟨⟨j+1,by rw [h6],by omega,h5⟩,hme⟩
 rw [ah hpos,ae]
 have rd:∀ {K:Addr→Prop},(∀ b,bI h4 b=some (iv p.2)→K b)→aO a1 n (j:Int) 1 K:=fun {K} hK=>cN (s:=p.2) (aH H4) (by rw [aq]; exact hlen4) (by rw [List.getElem?_map,hget]; rfl) hK
 refine rd fun b hc=>CI hc ?_
 have ew:wrap .i64 (p.1 - p.2)=p.1 - p.2:=IntWalk.i64_in _ (by omega)
 rw [ew]
 by_cases hop:p.1 - p.2>0
 case neg=>
  rw [af hop,ab,wj];obtain ⟨h5,h6⟩:=skip (fun h=>by unfold bC at h; rw [af hop,Bool.and_false] at h; cases h.1);exact ⟨⟨j+1,by rw [h6],by omega,h5⟩,hme⟩
 rw [ah hop,ae]
 have ho:bC p=true:=by unfold bC; rw [ah hpos,ah hop]; rfl
 by_cases hmj:(bF e (l.take j) m).2>0
 case neg=>
  rw [af hmj,ab,wj];obtain ⟨h5,h6⟩:=skip (fun h=>hmj h.2);exact ⟨⟨j+1,by rw [h6],by omega,h5⟩,hme⟩
 rw [ah hmj,ae]
 have hle:=hel p (aj hp) ho
 refine rd fun b hc=>CI hc ?_
 refine bj (v:=iv p.2) (aH H4) (by rw [aq]; exact hlen4) (by rw [List.getElem?_map,hget]; rfl) fun b hb2 hc2=>?_
 subst hb2
 have eo:wrap .i64 (p.2+e)=p.2+e:=IntWalk.i64_in _ (by omega)
 have em:wrap .i64 ((bF e (l.take j) m).2 - e)=(bF e (l.take j) m).2 - e:=IntWalk.i64_in _ (by omega)
 rw [aP,eo,em,wj]
 refine cO H4 (by rw [aq,hlen4]; exact hlt2) fun h5 H5=>⟨⟨j+1,?_,by omega,?_⟩,hme⟩
 · rw [hsn,an ⟨ho,hmj⟩]
 · rw [hsn,an ⟨ho,hmj⟩];have e1:(((bF e (l.take j) m).1++l.drop j).map fun p=>iv p.2).set j (iv (p.2+e))=(((bF e (l.take j) m).1++[(p.1,p.2+e)]++l.drop (j+1)).map fun p=>iv p.2):=by
    rw [hd,map_append,map_cons,jI (by rw [aq,hpl]),append_assoc,map_append]
    rfl
   unfold eT;rw [← e1];exact H5
theorem Ae {hs:List Int} {a:Option Addr} {n c:Nat} {most:Int} {h:Heap} {F:List aF} (hr:∀ h',aG F h'→cv h' a (hs.map iv)) (hn:hs.length=n) (hm:n≤1000000) (hi:∀ x∈hs,-9223372036854775808≤x∧x≤9223372036854775807) (hmo:most≤9223372036854775807) (H:aG F h) :
  aE prog 11 [.slice a n c,.int .i64 most] h fun v h'=>∃ a' l,v=.slice a' n n∧j4 (zs hs) most l∧l.map (·.1)=hs∧Fits l∧aG (eT 3 a' n l::F) h':=by
 apply EX.ap
 unfold Jn
 refine kj (e:=3) (by kernel_rfl) (by kernel_rfl) (by omega) H fun a1 h1 H1=>?_
 rw [aI]
 have hn0:(zs hs).length=n:=by rw [zs,aq,hn]
 refine ⟨fun m hh=>∃ l:LP,l.map (·.1)=hs∧Fits l∧m≤9223372036854775807∧(∀ r,j4 l m r→j4 (zs hs) most r)∧aG (eT 3 a1 n l::F) hh,fun m _=>m.toNat,⟨zs hs,uu hs,rI hs,hmo,fun r h=>h,?_⟩,?_⟩
 · unfold eT;rw [ut,hn];exact H1
 rintro m h2 ⟨l,hl1,hF,hmm,hR,H2⟩
 have hll:l.length=n:=by rw [← hn,← hl1,aq]
 have each1:∀ {i:Nat} {p:Int×Int},l[i]? = some p→hs[i]? = some p.1:=fun {i p} hp=>by rw [← hl1,List.getElem?_map,hp]; rfl
 have bnd:∀ {i:Nat} {p:Int×Int},l[i]? = some p→(-9223372036854775808≤p.1∧p.1≤9223372036854775807)∧0≤p.2∧(p.2≤p.1∨p.2=0):=fun {i p} hp=>⟨hi _ (aj (each1 hp)),hF p (aj hp)⟩
 by_cases hm0:m>0
 case neg=>
  rw [af hm0,ab];exact ⟨a1,l,rfl,hR l (.done (by omega)),hl1,hF,H2⟩
 case pos=>
 rw [ah hm0,ae]
 refine ⟨fun st hh=>hh=h2∧∃ (i:Nat) (least:Int),st=((cnt (l.take i):Int),least,(i:Int))∧i≤n∧1≤least∧least≤m∧∀ p∈l.take i,bC p=true→least≤p.1 - p.2,fun st _=>((n:Int) - st.2.2).toNat,⟨rfl,0,m,rfl,aw _,by omega,Int.le_refl _,fun p hp=>by cases hp⟩,?_⟩
 rintro st h3 ⟨rfl,i,least,rfl,hin,h1l,hlm,hleast⟩
 simp only []
 by_cases hlt:i<n
 case pos=>
  rw [ah (show ((i:Int)<(n:Int)) by omega),ae];obtain ⟨p,hp⟩:∃ p,l[i]? = some p:=⟨_,ai (by omega)⟩
  have hb:=bnd hp;have ht:l.take (i+1)=l.take i++[p]:=by rw [az,hp]; rfl
  have wi:wrap .i64 ((i:Int)+1)=((i+1:Nat):Int):=aN (by omega);have hme:((n:Int) - ((i+1:Nat):Int)).toNat<((n:Int) - (i:Int)).toNat:=by omega
  have hcle:cnt (l.take i)≤i:=Nat.le_trans (length_filter_le _ _) (by rw [au]; omega);refine cN (hr h3 H2.drop) (by rw [aq]; exact hn) (by rw [List.getElem?_map,each1 hp]; rfl) fun b hc=>CI hc ?_;refine cN (s:=p.2) (aH H2) (by rw [aq]; exact hll) (by rw [List.getElem?_map,hp]; rfl) fun b hc=>CI hc ?_;by_cases hpos:p.1>0
  · rw [ah hpos,ae];have ew:wrap .i64 (p.1 - p.2)=p.1 - p.2:=IntWalk.i64_in _ (by omega);rw [ew];by_cases hop:p.1 - p.2>0
    · have ho:bC p=true:=by unfold bC; rw [ah hpos,ah hop]; rfl
      rw [ah hop,ae,wi,aN (by omega)];refine ⟨⟨by trivial,i+1,(if p.1 - p.2<least then p.1 - p.2 else least),?_,by omega,by split <;> omega,by split <;> omega,fun q hq hqo=>?_⟩,hme⟩
      · rw [ht,gI,eU,ho]
        rfl
      · rw [ht] at hq
        rcases List.mem_append.1 hq with hq | hq
        · have:=hleast q hq hqo;split <;> omega
        · rw [mem_singleton] at hq;subst hq;split <;> omega
    · have ho:bC p=false:=by unfold bC; rw [af hop,Bool.and_false]
      rw [af hop,ab,wi];refine ⟨⟨by trivial,i+1,least,?_,by omega,h1l,hlm,fun q hq hqo=>?_⟩,hme⟩
      · rw [ht,gI,eU,ho]
        rfl
      · rw [ht] at hq
        rcases List.mem_append.1 hq with hq | hq
        · exact hleast q hq hqo
        · rw [mem_singleton] at hq;subst hq;rw [ho] at hqo;cases hqo
  · have ho:bC p=false:=by unfold bC; rw [af hpos,Bool.false_and]
    rw [af hpos,ab,wi];refine ⟨⟨by trivial,i+1,least,?_,by omega,h1l,hlm,fun q hq hqo=>?_⟩,hme⟩
    · rw [ht,gI,eU,ho]
      rfl
    · rw [ht] at hq
      rcases List.mem_append.1 hq with hq | hq
      · exact hleast q hq hqo
      · rw [mem_singleton] at hq;subst hq;rw [ho] at hqo;cases hqo
 case neg=>
 rw [af (by omega),ab]
 rw [av (by omega)] at hleast ⊢
 by_cases hc0:cnt l=0
 · rw [hc0,show (((0:Nat):Int)==0)=true from rfl,ae];exact ⟨a1,l,rfl,hR l (.none hc0),hl1,hF,H2⟩
 rw [show (((cnt l:Nat):Int)==0)=false from by simp only [beq_eq_false_iff_ne,ne_eq]; omega,ab]
 have ewd:wrap .i64 (Int.tdiv m (cnt l:Int))=Int.tdiv m (cnt l:Int):=by
  refine IntWalk.i64_in _ ?_;obtain ⟨M,rfl⟩:∃ M:Nat,m=(M:Int):=⟨m.toNat,by omega⟩
  rw [iu];have:=Nat.div_le_self M (cnt l);generalize M / cnt l=d at *;omega
 refine ⟨by omega,?_⟩
 rw [ewd]
 have he:=kr (r:=l) hm0 hc0 h1l hleast
 have heR:=fun r=>(kr (r:=r) hm0 hc0 h1l hleast).2.2
 have hel:=fun p hp ho=>Int.le_trans he.2.1 (hleast p hp ho)
 change bf _ _ _
 have hdef:(if (1:Int)>(if Int.tdiv m (cnt l:Int)<least then Int.tdiv m (cnt l:Int) else least) then 1 else (if Int.tdiv m (cnt l:Int)<least then Int.tdiv m (cnt l:Int) else least))=each m least (cnt l):=rfl
 simp only [hdef]
 generalize each m least (cnt l)=e at *
 refine ⟨fun st hh=>∃ j:Nat,st=((bF e (l.take j) m).2,(j:Int))∧j≤n∧aG (eT 3 a1 n ((bF e (l.take j) m).1++l.drop j)::F) hh,fun st _=>((n:Int) - st.2).toNat,⟨0,rfl,aw _,H2⟩,?_⟩
 rintro st h4 ⟨j,rfl,hjn,H4⟩
 simp only []
 by_cases hlt2:j<n
 case neg=>
  rw [af (by omega),ab];rw [av (by omega),drop_of_length_le (by omega),append_nil] at H4;rw [av (by omega)];have hpl:=(fy e (by omega) l m)
  refine ⟨⟨(bF e l m).1,by rw [iC,hl1],il e (by omega) l m hF hel,by omega,fun r hr=>hR r (heR r hr),H4⟩,?_⟩;have:=hpl.2 hc0 hm0;show ((bF e l m).2).toNat<m.toNat;omega
 case pos=>
 rw [ah (show ((j:Int)<(n:Int)) by omega),ae]
 obtain ⟨p,hp⟩:∃ p,l[j]? = some p:=⟨_,ai (by omega)⟩
 have hb:=bnd hp
 have ht:l.take (j+1)=l.take j++[p]:=by rw [az,hp]; rfl
 have hd:l.drop j=p::l.drop (j+1):=List.drop_eq_getElem?_toList_append .. |>.trans (by rw [hp]; rfl)
 have wj:wrap .i64 ((j:Int)+1)=((j+1:Nat):Int):=aN (by omega)
 have hme:((n:Int) - ((j+1:Nat):Int)).toNat<((n:Int) - (j:Int)).toNat:=by omega
 have hpl:(bF e (l.take j) m).1.length=j:=by rw [l8,au]; omega
 have hlen4:((bF e (l.take j) m).1++l.drop j).length=n:=by rw [ao,hpl,length_drop]; omega
 have hget:((bF e (l.take j) m).1++l.drop j)[j]? = some p:=by rw [List.getElem?_append_right (by omega),hpl,Nat.sub_self,hd]; rfl
 have hsn:=ik e p (l.take j) m
 rw [← ht] at hsn
 have skip:¬ (bC p=true∧(bF e (l.take j) m).2>0)→aG (eT 3 a1 n ((bF e (l.take (j+1)) m).1++l.drop (j+1))::F) h4∧(bF e (l.take (j+1)) m).2=(bF e (l.take j) m).2:=fun hno=>by
  rw [hsn,am hno];refine ⟨?_,rfl⟩;rw [append_assoc];show aG (eT 3 a1 n ((bF e (l.take j) m).1++p::l.drop (j+1))::F) h4;rw [← hd];exact H4
 have hm2:=(fy e (by omega) (l.take j) m).1
 refine cN (hr h4 H4.drop) (by rw [aq]; exact hn) (by rw [List.getElem?_map,each1 hp]; rfl) fun b hc=>CI hc ?_
 by_cases hpos:p.1>0
 case neg=>
  rw [af hpos,ab,wj];obtain ⟨h5,h6⟩:=skip (fun h=>by unfold bC at h; rw [af hpos,Bool.false_and] at h; cases h.1);exact ⟨⟨j+1,by rw [h6],by omega,h5⟩,hme⟩
 rw [ah hpos,ae]
 have rd:∀ {K:Addr→Prop},(∀ b,bI h4 b=some (iv p.2)→K b)→aO a1 n (j:Int) 1 K:=fun {K} hK=>cN (s:=p.2) (aH H4) (by rw [aq]; exact hlen4) (by rw [List.getElem?_map,hget]; rfl) hK
 refine rd fun b hc=>CI hc ?_
 have ew:wrap .i64 (p.1 - p.2)=p.1 - p.2:=IntWalk.i64_in _ (by omega)
 rw [ew]
 by_cases hop:p.1 - p.2>0
 case neg=>
  rw [af hop,ab,wj];obtain ⟨h5,h6⟩:=skip (fun h=>by unfold bC at h; rw [af hop,Bool.and_false] at h; cases h.1);exact ⟨⟨j+1,by rw [h6],by omega,h5⟩,hme⟩
 rw [ah hop,ae]
 have ho:bC p=true:=by unfold bC; rw [ah hpos,ah hop]; rfl
 by_cases hmj:(bF e (l.take j) m).2>0
 case neg=>
  rw [af hmj,ab,wj];obtain ⟨h5,h6⟩:=skip (fun h=>hmj h.2);exact ⟨⟨j+1,by rw [h6],by omega,h5⟩,hme⟩
 rw [ah hmj,ae]
 have hle:=hel p (aj hp) ho
 refine rd fun b hc=>CI hc ?_
 refine bj (v:=iv p.2) (aH H4) (by rw [aq]; exact hlen4) (by rw [List.getElem?_map,hget]; rfl) fun b hb2 hc2=>?_
 subst hb2
 have eo:wrap .i64 (p.2+e)=p.2+e:=IntWalk.i64_in _ (by omega)
 have em:wrap .i64 ((bF e (l.take j) m).2 - e)=(bF e (l.take j) m).2 - e:=IntWalk.i64_in _ (by omega)
 rw [aP,eo,em,wj]
 refine cO H4 (by rw [aq,hlen4]; exact hlt2) fun h5 H5=>⟨⟨j+1,?_,by omega,?_⟩,hme⟩
 · rw [hsn,an ⟨ho,hmj⟩]
 · rw [hsn,an ⟨ho,hmj⟩];have e1:(((bF e (l.take j) m).1++l.drop j).map fun p=>iv p.2).set j (iv (p.2+e))=(((bF e (l.take j) m).1++[(p.1,p.2+e)]++l.drop (j+1)).map fun p=>iv p.2):=by
    rw [hd,map_append,map_cons,jI (by rw [aq,hpl]),append_assoc,map_append]
    rfl
   unfold eT;rw [← e1];exact H5
theorem Am {hs:List Int} {a:Option Addr} {n c:Nat} {most:Int} {h:Heap} {F:List aF} (hr:∀ h',aG F h'→cv h' a (hs.map iv)) (hn:hs.length=n) (hm:n≤1000000) (hi:∀ x∈hs,-9223372036854775808≤x∧x≤9223372036854775807) (hmo:most≤9223372036854775807) (H:aG F h) :
  aE prog 10 [.slice a n c,.int .i64 most] h fun v h'=>∃ a' l,v=.slice a' n n∧j4 (zs hs) most l∧l.map (·.1)=hs∧Fits l∧aG (eT 2 a' n l::F) h':=by
 apply EY.ap
 unfold Jo
 refine kj (e:=2) (by kernel_rfl) (by kernel_rfl) (by omega) H fun a1 h1 H1=>?_
 rw [aI]
 have hn0:(zs hs).length=n:=by rw [zs,aq,hn]
 refine ⟨fun m hh=>∃ l:LP,l.map (·.1)=hs∧Fits l∧m≤9223372036854775807∧(∀ r,j4 l m r→j4 (zs hs) most r)∧aG (eT 2 a1 n l::F) hh,fun m _=>m.toNat,⟨zs hs,uu hs,rI hs,hmo,fun r h=>h,?_⟩,?_⟩
 · unfold eT;rw [ut,hn];exact H1
 rintro m h2 ⟨l,hl1,hF,hmm,hR,H2⟩
 have hll:l.length=n:=by rw [← hn,← hl1,aq]
 have each1:∀ {i:Nat} {p:Int×Int},l[i]? = some p→hs[i]? = some p.1:=fun {i p} hp=>by rw [← hl1,List.getElem?_map,hp]; rfl
 have bnd:∀ {i:Nat} {p:Int×Int},l[i]? = some p→(-9223372036854775808≤p.1∧p.1≤9223372036854775807)∧0≤p.2∧(p.2≤p.1∨p.2=0):=fun {i p} hp=>⟨hi _ (aj (each1 hp)),hF p (aj hp)⟩
 by_cases hm0:m>0
 case neg=>
  rw [af hm0,ab];exact ⟨a1,l,rfl,hR l (.done (by omega)),hl1,hF,H2⟩
 case pos=>
 rw [ah hm0,ae]
 refine ⟨fun st hh=>∃ i:Nat,st=((bF 1 (l.take i) m).2,decide ((bF 1 (l.take i) m).2<m),(i:Int))∧i≤n∧aG (eT 2 a1 n ((bF 1 (l.take i) m).1++l.drop i)::F) hh,fun st _=>((n:Int) - st.2.2).toNat,⟨0,by show _=(m,decide (m<m),(0:Int)); rw [af (Int.lt_irrefl m)],aw _,H2⟩,?_⟩
 rintro st h3 ⟨j,rfl,hjn,H4⟩
 simp only []
 by_cases hlt2:j<n
 case neg=>
  rw [af (by omega),ab];rw [av (by omega),drop_of_length_le (by omega),append_nil] at H4;rw [av (by omega)];have hpl:=(fy 1 (by decide) l m)
  by_cases htook:(bF 1 l m).2<m
  · rw [ah htook,aB,ab];have hc0:cnt l≠0:=fun h=>by
     rw [kM 1 l m h] at htook;exact Int.lt_irrefl _ htook
    refine ⟨⟨(bF 1 l m).1,by rw [iC,hl1],il 1 (by decide) l m hF (fun p _ ho=>by unfold bC at ho; simp only [ay,decide_eq_true_eq] at ho; omega),by omega,fun r hr=>hR r (.step hm0 hc0 hr),H4⟩,?_⟩;show ((bF 1 l m).2).toNat<m.toNat;omega
  · rw [af htook,aC,ae];have hc0:cnt l=0:=by
     rcases Nat.eq_zero_or_pos (cnt l) with h | h
     · exact h
     · exact absurd (hpl.2 (by omega) hm0) htook
    rw [kM 1 l m hc0] at H4;exact ⟨a1,l,rfl,hR l (.none hc0),hl1,hF,H4⟩
 case pos=>
 rw [ah (show ((j:Int)<(n:Int)) by omega),ae]
 obtain ⟨p,hp⟩:∃ p,l[j]? = some p:=⟨_,ai (by omega)⟩
 have hb:=bnd hp
 have ht:l.take (j+1)=l.take j++[p]:=by rw [az,hp]; rfl
 have hd:l.drop j=p::l.drop (j+1):=List.drop_eq_getElem?_toList_append .. |>.trans (by rw [hp]; rfl)
 have wj:wrap .i64 ((j:Int)+1)=((j+1:Nat):Int):=aN (by omega)
 have hme:((n:Int) - ((j+1:Nat):Int)).toNat<((n:Int) - (j:Int)).toNat:=by omega
 have hpl:(bF 1 (l.take j) m).1.length=j:=by rw [l8,au]; omega
 have hlen4:((bF 1 (l.take j) m).1++l.drop j).length=n:=by rw [ao,hpl,length_drop]; omega
 have hget:((bF 1 (l.take j) m).1++l.drop j)[j]? = some p:=by rw [List.getElem?_append_right (by omega),hpl,Nat.sub_self,hd]; rfl
 have hsn:=ik 1 p (l.take j) m
 rw [← ht] at hsn
 have skip:¬ (bC p=true∧(bF 1 (l.take j) m).2>0)→aG (eT 2 a1 n ((bF 1 (l.take (j+1)) m).1++l.drop (j+1))::F) h3∧(bF 1 (l.take (j+1)) m).2=(bF 1 (l.take j) m).2:=fun hno=>by
  rw [hsn,am hno];refine ⟨?_,rfl⟩;rw [append_assoc];show aG (eT 2 a1 n ((bF 1 (l.take j) m).1++p::l.drop (j+1))::F) h3;rw [← hd];exact H4
 have hm2:=(fy 1 (by decide) (l.take j) m).1
 by_cases hmj:(bF 1 (l.take j) m).2>0
 case neg=>
  rw [af hmj,ab,wj];obtain ⟨h5,h6⟩:=skip (fun h=>hmj h.2);exact ⟨⟨j+1,by rw [h6],by omega,h5⟩,hme⟩
 rw [ah hmj,ae]
 refine cN (hr h3 H4.drop) (by rw [aq]; exact hn) (by rw [List.getElem?_map,each1 hp]; rfl) fun b hc=>CI hc ?_
 have rd:∀ {K:Addr→Prop},(∀ b,bI h3 b=some (iv p.2)→K b)→aO a1 n (j:Int) 1 K:=fun {K} hK=>cN (s:=p.2) (aH H4) (by rw [aq]; exact hlen4) (by rw [List.getElem?_map,hget]; rfl) hK
 refine rd fun b hc=>CI hc ?_
 by_cases hop:p.1>p.2
 case neg=>
  rw [af hop,ab,wj];obtain ⟨h5,h6⟩:=skip (fun h=>by have h1:=h.1; unfold bC at h1; simp only [ay,decide_eq_true_eq] at h1; omega);exact ⟨⟨j+1,by rw [h6],by omega,h5⟩,hme⟩
 rw [ah hop,ae]
 have ho:bC p=true:=by unfold bC; simp only [ay,decide_eq_true_eq]; omega
 refine rd fun b hc=>CI hc ?_
 refine bj (v:=iv p.2) (aH H4) (by rw [aq]; exact hlen4) (by rw [List.getElem?_map,hget]; rfl) fun b hb2 hc2=>?_
 subst hb2
 have eo:wrap .i64 (p.2+1)=p.2+1:=IntWalk.i64_in _ (by omega)
 have em:wrap .i64 ((bF 1 (l.take j) m).2 - 1)=(bF 1 (l.take j) m).2 - 1:=IntWalk.i64_in _ (by omega)
 rw [aP,eo,em,wj]
 refine cO H4 (by rw [aq,hlen4]; exact hlt2) fun h5 H5=>⟨⟨j+1,?_,by omega,?_⟩,hme⟩
 · rw [hsn,an ⟨ho,hmj⟩];show _=((bF 1 (l.take j) m).2 - 1,decide ((bF 1 (l.take j) m).2 - 1<m),((j+1:Nat):Int))
   rw [ah (by omega)]
 · rw [hsn,an ⟨ho,hmj⟩];have e1:(((bF 1 (l.take j) m).1++l.drop j).map fun p=>iv p.2).set j (iv (p.2+1))=(((bF 1 (l.take j) m).1++[(p.1,p.2+1)]++l.drop (j+1)).map fun p=>iv p.2):=by
    rw [hd,map_append,map_cons,jI (by rw [aq,hpl]),append_assoc,map_append]
    rfl
   unfold eT;rw [← e1];exact H5
end Go.Proofs.YtdpaiiibndnanaaGreatDoor
