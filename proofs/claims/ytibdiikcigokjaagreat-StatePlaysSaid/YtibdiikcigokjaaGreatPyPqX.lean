/- The document's answer on what changed (seat T). -/
import Derived.Test.YtibdiikcigokjaaGreatPyPkX
import Derived.Test.YtibdiikcigokjaaGreatPyPpX
namespace Go.Proofs.YtibdiikcigokjaaGreat.TS
open Go.Builtin (append_)
open Go.IntKind (wrap)
open Go.Proofs.Tryz (prog)
open List (append_assoc take_append_drop map_append getElem?_map find?_cons length_filter_le flatMap_append append_nil length_nil mem_singleton eq_nil_of_length_eq_zero not_mem_nil nil_append take_length filter_congr filter_append drop_of_length_le drop_eq_getElem?_toList_append)
open Go Go.RowKit
open Tb (T get set del Up nj)
open AF (dF bp bB bZ)
set_option linter.unusedVariables false
set_option linter.unusedSimpArgs false
def mrg:T VT→T VT→List Ch
 | [],[]=>[]
 | x::a,[]=>(x.1,vz,true)::mrg a []
 | [],y::b=>(y.1,y.2,false)::mrg [] b
 | x::a,y::b=>if dF x.1 y.1=true then (x.1,vz,true)::mrg a (y::b) else if dF y.1 x.1=true then (y.1,y.2,false)::mrg (x::a) b else (if x.2=y.2 then [] else [(y.1,y.2,false)])++mrg a b
termination_by a b=>a.length+b.length
theorem nQ (n:Nat):∀ {a b:T VT},a.length+b.length≤n→∀ x∈mrg a b,(∃ p∈a,p.1=x.1)∨∃ p∈b,p.1=x.1:=by
 induction n with
 | zero=>
   intro a b h x hx;have ha:a=[]:=eq_nil_of_length_eq_zero (by omega);have hb:b=[]:=eq_nil_of_length_eq_zero (by omega);subst ha hb;rw [mrg] at hx;cases hx
 | succ n ih=>
   intro a b h x hx
   cases a with
   | nil=>
     cases b with
     | nil=>rw [mrg] at hx; cases hx
     | cons y b=>
       rw [mrg] at hx
       rcases ay.1 hx with rfl | hx
       · exact .inr ⟨y,by simp,rfl⟩
       · rcases ih (by simp at h ⊢; omega) x hx with ⟨p,hp,e⟩ | ⟨p,hp,e⟩
         · exact .inl ⟨p,hp,e⟩
         · exact .inr ⟨p,by simp [hp],e⟩
   | cons z a=>
     cases b with
     | nil=>
       rw [mrg] at hx
       rcases ay.1 hx with rfl | hx
       · exact .inl ⟨z,by simp,rfl⟩
       · rcases ih (by simp at h ⊢; omega) x hx with ⟨p,hp,e⟩ | ⟨p,hp,e⟩
         · exact .inl ⟨p,by simp [hp],e⟩
         · exact .inr ⟨p,hp,e⟩
     | cons y b=>
       rw [mrg] at hx;simp only [ao] at h;split at hx
       · rcases ay.1 hx with rfl | hx
         · exact .inl ⟨z,by simp,rfl⟩
         · rcases ih (by simp only [ao]; omega) x hx with ⟨p,hp,e⟩ | ⟨p,hp,e⟩
           · exact .inl ⟨p,by simp [hp],e⟩
           · exact .inr ⟨p,hp,e⟩
       · split at hx
         · rcases ay.1 hx with rfl | hx
           · exact .inr ⟨y,by simp,rfl⟩
           · rcases ih (by simp only [ao]; omega) x hx with ⟨p,hp,e⟩ | ⟨p,hp,e⟩
             · exact .inl ⟨p,hp,e⟩
             · exact .inr ⟨p,by simp [hp],e⟩
         · rcases List.mem_append.1 hx with hx | hx
           · split at hx
             · cases hx
             · rw [mem_singleton] at hx;subst hx;exact .inr ⟨y,by simp,rfl⟩
           · rcases ih (by omega) x hx with ⟨p,hp,e⟩ | ⟨p,hp,e⟩
             · exact .inl ⟨p,by simp [hp],e⟩
             · exact .inr ⟨p,by simp [hp],e⟩
theorem kU {l:T VT} {k:ByteArray} (h:∀ p∈l,dF k p.1=true):get l k=none:=Tb.kh.2 fun p hp=>(Tb.pA (h p hp)).symm
theorem dJ {V:Type} (p:ByteArray×V) (l:T V) (k:ByteArray):get (p::l) k=if p.1=k then some p.2 else get l k:=by
 unfold Tb.get
 rw [find?_cons]
 by_cases e:p.1=k
 · simp [e]
 · simp [e]
theorem mrg_diffs (n:Nat):∀ {a b:T VT},a.length+b.length≤n→Up a→Up b→Diffs a b (mrg a b):=by
 have ups:∀ {k:ByteArray} {a b:T VT} {d:List Ch} {v:VT×Bool},(∀ x∈d,(∃ p∈a,p.1=x.1)∨∃ p∈b,p.1=x.1)→(∀ p∈a,dF k p.1=true)→(∀ p∈b,dF k p.1=true)→Up (V:=VT×Bool) d→Up (V:=VT×Bool) ((k,v)::d):=fun {k a b d v} hm ha hb U=>by
  refine List.pairwise_cons.2 ⟨fun q hq=>?_,U⟩
  rcases hm q hq with ⟨p,hp,e⟩ | ⟨p,hp,e⟩
  · have:=ha p hp
    rwa [e] at this
  · have:=hb p hp
    rwa [e] at this
 induction n with
 | zero=>
   intro a b h Ua Ub;have ha:a=[]:=eq_nil_of_length_eq_zero (by omega);have hb:b=[]:=eq_nil_of_length_eq_zero (by omega);subst ha hb;rw [mrg];exact ⟨Up.nil,fun k=>rfl⟩
 | succ n ih=>
   intro a b h Ua Ub
   cases a with
   | nil=>
     cases b with
     | nil=>
       rw [mrg];exact ⟨Up.nil,fun k=>rfl⟩
     | cons y b=>
       rw [mrg];have h2:([]:T VT).length+b.length≤n:=by simp at h ⊢; omega
       have D:=ih h2 Ua Ub.tail;refine ⟨ups (nQ n h2) (by simp) Ub.head D.up,fun k=>?_⟩;rw [dJ,D.at_];unfold dget;rw [dJ];by_cases e:y.1=k
       · simp only [e,if_true]
         rfl
       · simp only [e,if_false]
   | cons x a=>
     cases b with
     | nil=>
       rw [mrg];have h2:a.length+([]:T VT).length≤n:=by simp at h ⊢; omega
       have D:=ih h2 Ua.tail Ub;refine ⟨ups (nQ n h2) Ua.head (by simp) D.up,fun k=>?_⟩;rw [dJ,D.at_];unfold dget;rw [dJ (l:=a)];by_cases e:x.1=k
       · simp only [e,if_true]
         rfl
       · simp only [e,if_false]
     | cons y b=>
       rw [mrg];simp only [ao] at h;split
       · rename_i hlt;have h2:a.length+(y::b).length≤n:=by simp only [ao]; omega
         have D:=ih h2 Ua.tail Ub;have hy:∀ p∈y::b,dF x.1 p.1=true:=fun p hp=>by
          rcases ay.1 hp with rfl | hp
          · exact hlt
          · exact bB hlt (Ub.head p hp)
         refine ⟨ups (nQ n h2) Ua.head hy D.up,fun k=>?_⟩;rw [dJ,D.at_];unfold dget;rw [dJ (p:=x)];by_cases e:x.1=k
         · rw [show get (y::b) k=none from by rw [← e]; exact kU hy];simp only [e,if_true]
           rfl
         · simp only [e,if_false]
       · rename_i hnlt;split
         · rename_i hlt;have h2:(x::a).length+b.length≤n:=by simp only [ao]; omega
           have D:=ih h2 Ua Ub.tail;have hx:∀ p∈x::a,dF y.1 p.1=true:=fun p hp=>by
            rcases ay.1 hp with rfl | hp
            · exact hlt
            · exact bB hlt (Ua.head p hp)
           refine ⟨ups (nQ n h2) hx Ub.head D.up,fun k=>?_⟩;rw [dJ,D.at_];unfold dget;rw [dJ (p:=y)];by_cases e:y.1=k
           · rw [show get (x::a) k=none from by rw [← e]; exact kU hx];simp only [e,if_true]
             rfl
           · simp only [e,if_false]
         · rename_i hnlt2;have exy:x.1=y.1:=by
            by_cases e:x.1=y.1
            · exact e
            · exact absurd (bZ e hnlt) hnlt2
           have h2:a.length+b.length≤n:=by omega
           have D:=ih h2 Ua.tail Ub.tail;have hya:∀ p∈a,dF y.1 p.1=true:=fun p hp=>by rw [← exy]; exact Ua.head p hp
           have hna:get a y.1=none:=kU hya;have hnb:get b y.1=none:=kU Ub.head;have hnd:get (V:=VT×Bool) (mrg a b) y.1=none:=by
            rw [D.at_,dget,hnb,hna]
            rfl
           split
           · rename_i ev;rw [nil_append];refine ⟨D.up,fun k=>?_⟩;by_cases e:y.1=k
             · subst e;rw [hnd,dget,dJ,dJ,al rfl,al exy];simp only [ev,if_true]
             · rw [D.at_];unfold dget;have ex:¬ x.1=k:=by rw [exy]; exact e
               rw [dJ,dJ];simp only [ex,e,if_false]
           · rename_i ev;refine ⟨ups (nQ n h2) hya Ub.head D.up,fun k=>?_⟩;show get (V:=VT×Bool) ((y.1,y.2,false)::mrg a b) k=_;rw [dJ];by_cases e:y.1=k
             · subst e;rw [al rfl,dget,dJ,dJ,al rfl,al exy];simp only [Option.some.injEq,ev,if_false]
             · rw [ak e,D.at_];unfold dget;have ex:¬ x.1=k:=by rw [exy]; exact e
               rw [dJ,dJ];simp only [ex,e,if_false]
theorem Diffs.uniq {a b:T VT} {d e:List Ch} (D:Diffs a b d) (E:Diffs a b e):d=e:=Tb.Up.ext D.up E.up fun k=>by rw [D.at_,E.at_]
theorem mrg_len (n:Nat):∀ {a b:T VT},a.length+b.length≤n→(mrg a b).length≤a.length+b.length:=by
 induction n with
 | zero=>
   intro a b h;have ha:a=[]:=eq_nil_of_length_eq_zero (by omega);have hb:b=[]:=eq_nil_of_length_eq_zero (by omega);subst ha hb;rw [mrg];exact au _
 | succ n ih=>
   intro a b h
   cases a with
   | nil=>
     cases b with
     | nil=>rw [mrg]; exact au _
     | cons y b=>
       rw [mrg];have:=ih (a:=[]) (b:=b) (by simp at h ⊢; omega);simp only [ao,length_nil] at this ⊢;omega
   | cons x a=>
     cases b with
     | nil=>
       rw [mrg];have:=ih (a:=a) (b:=[]) (by simp at h ⊢; omega);simp only [ao,length_nil] at this ⊢;omega
     | cons y b=>
       rw [mrg];simp only [ao] at h;have h1:=ih (a:=a) (b:=y::b) (by simp only [ao]; omega);have h2:=ih (a:=x::a) (b:=b) (by simp only [ao]; omega);have h3:=ih (a:=a) (b:=b) (by omega);simp only [ao] at h1 h2;split
       · simp only [ao]; omega
       · split
         · simp only [ao]; omega
         · rw [am];split
           · simp only [ao,length_nil]; omega
           · simp only [ao,length_nil]; omega
theorem Al_and {P:Prop} {h:Heap} {o:Obj} {K:Nat→Heap→Prop} (hp:P) (H:Al h o K):Al h o fun b h=>P∧K b h:=⟨hp,H⟩
section
variable {h:Heap} {F:List aG} {pa pb:Option Addr} {n m ca cb:Nat} {a b:T VT}
theorem ra {sa:Option Addr} {n c:Nat} {xs:List Ch} {x:Ch} {K:Heap→Option Addr→Nat→Nat→Prop} (hl:xs.length=n) (hb:n<2199023255552) (H:aD (aL 149 3 sa n c (xs.flatMap gk)::F) h)
  (hK:∀ a' c' h',aD (aL 149 3 a' (n+1) c' ((xs++[x]).flatMap gk)::F) h'→K h' a' (n+1) c') :
  Al h (.cells #[.string x.1,ve x.2.1,.bool x.2.2] 149) fun b1 h1=>bi prog (append_ #[147,147] 147 #[.slice sa n c,.slice (some (Addr.mk b1 0 none)) 1 1]) h1 fun r h2=>aX r fun a' l' c'=>K h2 a' l' c':=by
 refine gx (f:=gk) (sz:=3) (by_:=40) (x:=x) (by kernel_rfl) (by kernel_rfl) (by kernel_rfl) (fun _=>rfl) (fun v hv=>?_) rfl hl (by omega) H hK
 simp only [ay,not_mem_nil,or_false] at hv
 rcases hv with rfl | rfl | rfl <;> rfl
theorem F67_spec (hra:EU F pa a) (hrb:EU F pb b) (hna:a.length=n) (hnb:b.length=m) (hn:n<1099511627776) (hm:m<1099511627776) (H:aD F h) :
  aC prog 67 [.slice pa n ca,.slice pb m cb] h fun v h'=>∃ sa k c,v=.slice sa k c∧(mrg a b).length=k∧aD (aL 149 3 sa k c ((mrg a b).flatMap gk)::F) h':=by
 apply Je.ap
 unfold N1
 refine ⟨fun st hh=>∃ (i k:Nat) (xs:List Ch),st=(⟨st.1.a,xs.length,st.1.c⟩,(i:Int),(k:Int))∧i≤n∧k≤m∧xs.length≤i+k∧xs++mrg (a.drop i) (b.drop k)=mrg a b∧aD (aL 149 3 st.1.a xs.length st.1.c (xs.flatMap gk)::F) hh,
  fun st _=>((n:Int) - st.2.1).toNat+((m:Int) - st.2.2).toNat,⟨0,0,[],rfl,au _,au _,au _,rfl,bG 149 3 H⟩,?_⟩
 rintro ⟨⟨oa,ol,oc⟩,M4,NF⟩ h1 ⟨i,k,xs,est,hi,hk,hxl,hxs,H1⟩
 simp only [Prod.mk.injEq,Sl.mk.injEq] at est
 obtain ⟨⟨_,rfl,_⟩,rfl,rfl⟩:=est
 simp only [] at H1 ⊢
 have ga:∀ {i:Nat},i<n→∃ p,a[i]? = some p∧a.drop i=p::a.drop (i+1):=fun {i} hlt=>by
  obtain ⟨p,hp⟩:∃ p,a[i]? = some p:=⟨_,ah (by omega)⟩
  exact ⟨p,hp,drop_eq_getElem?_toList_append .. |>.trans (by rw [hp]; rfl)⟩
 have gb:∀ {i:Nat},i<m→∃ p,b[i]? = some p∧b.drop i=p::b.drop (i+1):=fun {i} hlt=>by
  obtain ⟨p,hp⟩:∃ p,b[i]? = some p:=⟨_,ah (by omega)⟩
  exact ⟨p,hp,drop_eq_getElem?_toList_append .. |>.trans (by rw [hp]; rfl)⟩
 have wi:i<n→wrap .i64 ((i:Int)+1)=((i+1:Nat):Int):=fun _=>aH (by omega)
 have wk:k<m→wrap .i64 ((k:Int)+1)=((k+1:Nat):Int):=fun _=>aH (by omega)
 have meG:i<n→((n:Int) - ((i+1:Nat):Int)).toNat+((m:Int) - (k:Int)).toNat<((n:Int) - (i:Int)).toNat+((m:Int) - (k:Int)).toNat:=fun _=>by omega
 have meP:k<m→((n:Int) - (i:Int)).toNat+((m:Int) - ((k+1:Nat):Int)).toNat<((n:Int) - (i:Int)).toNat+((m:Int) - (k:Int)).toNat:=fun _=>by omega
 have meB:i<n→k<m→((n:Int) - ((i+1:Nat):Int)).toNat+((m:Int) - ((k+1:Nat):Int)).toNat<((n:Int) - (i:Int)).toNat+((m:Int) - (k:Int)).toNat:=fun _ _=>by omega
 by_cases hia:i<n
 · obtain ⟨p,hp,hda⟩:=ga hia;rw [af (show ((i:Int)<(n:Int)) by omega),ab];by_cases hkb:k<m
   · obtain ⟨q,hq,hdb⟩:=gb hkb;rw [hda,hdb,mrg] at hxs;rw [ae (show ¬ ((k:Int)≥(m:Int)) by omega),aa,ab];refine ce (f:=pairC) (fun _=>rfl) (by decide) (hra h1 H1.drop) hna hp fun _ _ hc=>dl (hc 0 _ rfl) ?_;refine ce (f:=pairC) (fun _=>rfl) (by decide) (hrb h1 H1.drop) hnb hq fun _ _ hc=>dl (hc 0 _ rfl) ?_;rw [AF.gK]
     cases h12:dF p.1 q.1 with
     | true=>
       rw [ab];rw [al h12] at hxs;refine ce (f:=pairC) (fun _=>rfl) (by decide) (hra h1 H1.drop) hna hp fun _ _ hc=>dl (hc 0 _ rfl) ?_;refine ra (x:=(p.1,vz,true)) rfl (by omega) H1 fun a' c' h' H2=>?_;rw [wi hia];refine ⟨⟨i+1,k,xs++[(p.1,vz,true)],by rw [am]; rfl,by omega,hk,by rw [am]; show xs.length+1≤_; omega,?_,by rw [am]; exact H2⟩,meG hia⟩;rw [hdb,← hxs,append_assoc]
       rfl
     | false=>
       rw [aa];rw [ak (by rw [h12]; decide)] at hxs;rw [ae (show ¬ ((i:Int)≥(n:Int)) by omega),aa];refine ce (f:=pairC) (fun _=>rfl) (by decide) (hrb h1 H1.drop) hnb hq fun _ _ hc=>dl (hc 0 _ rfl) ?_;refine ce (f:=pairC) (fun _=>rfl) (by decide) (hra h1 H1.drop) hna hp fun _ _ hc=>dl (hc 0 _ rfl) ?_;rw [AF.gK]
       cases h21:dF q.1 p.1 with
       | true=>
         rw [ab];rw [al h21] at hxs;refine ce (f:=pairC) (fun _=>rfl) (by decide) (hrb h1 H1.drop) hnb hq fun _ _ hc=>dl (hc 0 _ rfl) ?_;refine ce (f:=pairC) (fun _=>rfl) (by decide) (hrb h1 H1.drop) hnb hq fun _ _ hc=>dl (hc 1 _ rfl) ?_;refine Al_and rfl (ra (x:=(q.1,q.2,false)) rfl (by omega) H1 fun a' c' h' H2=>?_);rw [wk hkb];refine ⟨⟨i,k+1,xs++[(q.1,q.2,false)],by rw [am]; rfl,hi,by omega,by rw [am]; show xs.length+1≤_; omega,?_,by rw [am]; exact H2⟩,meP hkb⟩;rw [hda,← hxs,append_assoc]
         rfl
       | false=>
         rw [aa];rw [ak (by rw [h21]; decide)] at hxs;refine ce (f:=pairC) (fun _=>rfl) (by decide) (hra h1 H1.drop) hna hp fun _ _ hc=>dl (hc 1 _ rfl) ?_;refine ce (f:=pairC) (fun _=>rfl) (by decide) (hrb h1 H1.drop) hnb hq fun _ _ hc=>dl (hc 1 _ rfl) ?_;rw [bO];by_cases e:p.2=q.2
         · rw [af e,az,aa,wi hia,wk hkb];rw [al e,nil_append] at hxs;exact ⟨⟨i+1,k+1,xs,rfl,by omega,by omega,by omega,hxs,H1⟩,meB hia hkb⟩
         · rw [ae e,aA,ab];rw [ak e] at hxs;refine ce (f:=pairC) (fun _=>rfl) (by decide) (hrb h1 H1.drop) hnb hq fun _ _ hc=>dl (hc 0 _ rfl) ?_;refine ce (f:=pairC) (fun _=>rfl) (by decide) (hrb h1 H1.drop) hnb hq fun _ _ hc=>dl (hc 1 _ rfl) ?_;refine Al_and rfl (ra (x:=(q.1,q.2,false)) rfl (by omega) H1 fun a' c' h' H2=>?_);rw [wi hia,wk hkb];refine ⟨⟨i+1,k+1,xs++[(q.1,q.2,false)],by rw [am]; rfl,by omega,by omega,by rw [am]; show xs.length+1≤_; omega,?_,by rw [am]; exact H2⟩,meB hia hkb⟩;rw [← hxs,append_assoc]
   · have hdb:b.drop k=[]:=drop_of_length_le (by omega);rw [hda,hdb,mrg] at hxs;rw [af (show ((k:Int)≥(m:Int)) by omega),ab];refine ce (f:=pairC) (fun _=>rfl) (by decide) (hra h1 H1.drop) hna hp fun _ _ hc=>dl (hc 0 _ rfl) ?_;refine ra (x:=(p.1,vz,true)) rfl (by omega) H1 fun a' c' h' H2=>?_;rw [wi hia];refine ⟨⟨i+1,k,xs++[(p.1,vz,true)],by rw [am]; rfl,by omega,hk,by rw [am]; show xs.length+1≤_; omega,?_,by rw [am]; exact H2⟩,meG hia⟩;rw [hdb,← hxs,append_assoc]
     rfl
 · have hda:a.drop i=[]:=drop_of_length_le (by omega);rw [ae (show ¬ ((i:Int)<(n:Int)) by omega),aa];by_cases hkb:k<m
   · obtain ⟨q,hq,hdb⟩:=gb hkb;rw [hda,hdb,mrg] at hxs;rw [af (show ((k:Int)<(m:Int)) by omega),ab,ae (show ¬ ((k:Int)≥(m:Int)) by omega),aa,aa,af (show ((i:Int)≥(n:Int)) by omega),ab];refine ce (f:=pairC) (fun _=>rfl) (by decide) (hrb h1 H1.drop) hnb hq fun _ _ hc=>dl (hc 0 _ rfl) ?_;refine ce (f:=pairC) (fun _=>rfl) (by decide) (hrb h1 H1.drop) hnb hq fun _ _ hc=>dl (hc 1 _ rfl) ?_;refine Al_and rfl (ra (x:=(q.1,q.2,false)) rfl (by omega) H1 fun a' c' h' H2=>?_);rw [wk hkb];refine ⟨⟨i,k+1,xs++[(q.1,q.2,false)],by rw [am]; rfl,hi,by omega,by rw [am]; show xs.length+1≤_; omega,?_,by rw [am]; exact H2⟩,meP hkb⟩;rw [hda,← hxs,append_assoc]
     rfl
   · have hdb:b.drop k=[]:=drop_of_length_le (by omega);rw [hda,hdb,mrg,append_nil] at hxs;rw [ae (show ¬ ((k:Int)<(m:Int)) by omega),aa];exact ⟨oa,xs.length,oc,rfl,by rw [hxs],by rw [← hxs]; exact H1⟩
end
end Go.Proofs.YtibdiikcigokjaaGreat.TS
namespace Go.Proofs.YtibdiikcigokjaaGreat
open Go.Builtin (append_)
open Go.IntKind (wrap)
open Go.Proofs.Tryz (prog)
open List (append_assoc take_append_drop map_append getElem?_map find?_cons length_filter_le flatMap_append append_nil length_nil mem_singleton eq_nil_of_length_eq_zero not_mem_nil nil_append take_length filter_congr filter_append drop_of_length_le drop_eq_getElem?_toList_append)
open Go Go.RowKit Go.MapKept
set_option linter.unusedVariables false
set_option linter.unusedSimpArgs false
open AF (cI kZ ln fY dF Gr)
open TS (Ch gk Diffs dL VT dG cD EU mrg)
open Hex (cE dp)
section
variable {F:List aG} {h:Heap} {r m:Nat} {S:eT} {A:AF.FS} {dir:ByteArray}
def Iz (s0:Option Addr) (v0:Int) (pre b:ByteArray) (fld:Nat) (h_6:Heap) (Q:Value→Heap→Prop):Prop:=
 bf s0 fun a4=>
 Ld h_6 (a4.add 0) fun v5=>DP v5 fun x6=>
 bf s0 fun a5=>
 Ld h_6 (a5.add 1) fun v6=>DS v6 fun x7=>
 aC prog 70 [.int .i64 v0] h_6 fun r6 h_7=>
 DS r6 fun x8=>
 (aT (some (.pointer s0)) (.pointer s0))∧
 (bf s0 fun a6=>
 aT (some (.pointer (some a4))) (.pointer (some a6)))∧
 (aT (some (.pointer (some (a4.add 0)))) (.pointer (some (a4.add 0))))∧
 (Ld h_7 (a4.add 0) fun v7=>DP v7 fun x9=>
 aT (some (.pointer x6)) (.pointer x9))∧
 (aT (some (.pointer s0)) (.pointer s0))∧
 (bf s0 fun a7=>
 aT (some (.pointer (some a5))) (.pointer (some a7)))∧
 (aT (some (.pointer (some (a5.add 1)))) (.pointer (some (a5.add 1))))∧
 (Ld h_7 (a5.add 1) fun v8=>DS v8 fun x10=>
 aT (some (.string x7)) (.string x10))∧
 (aT (some (.string b)) (.string b))∧
 pre.size+(x8:ByteArray).size≤9223372036854775807∧
 aC prog 69 [.pointer x6,.string x7,.string (pre++x8),.string b] h_7 fun r7 h_8=>
 DI .i64 r7 fun e0=>
 (bif (e0:Int)==0 then
  bf s0 fun a8=>
  Ld h_8 (a8.add fld) fun v9=>aX v9 fun x11a x11l x11c=>
  aC prog 71 [.slice x11a x11l x11c,.int .i64 v0] h_8 fun r8 h_9=>
  aX r8 fun x12a x12l x12c=>
  bf s0 fun a9=>
  bI h_9 ((a9.add fld).add 0) (.slice x12a x12l x12c) fun h_11=>
  Q (.int .i64 e0) h_11
 else
  Q (.int .i64 e0) h_8)
set_option maxHeartbeats 2000000 in
theorem Ac {c fld:Nat} {pre:ByteArray} {v:Int} {ps:gX} {Q:Value→Heap→Prop} (hc:(c=100∧fld=2∧pre=⟨#[100,46]⟩)∨(c=110∧fld=3∧pre=⟨#[110,46]⟩)) (O:mH S) (W:A.WF) (hs:A.steps+20<1099511627776) (hm:A.files.length+20<1099511627776)
  (hD:S.D.length<100000000) (hN:S.N.length<100000000) (hsz:(bj ps).length≤16777216) (H:aD (be r m S::bg m A::F) h)
  (hQ:∀ h',aD (be r m (S.lay A c v ps).2.1::bg m (S.lay A c v ps).1::F) h'→Q (.int .i64 (((S.lay A c v ps).2.2:Nat):Int)) h'):Iz (some ⟨r,0,none⟩) v pre (cn (bj ps)) fld h Q:=by
 unfold Iz
 obtain ⟨a1,c1,a2,c2,H1⟩:=dS H
 rw [aY]
 refine mu (x:=m) H1 rfl ?_
 rw [aY]
 refine bu (x:=S.dir) H1 rfl ?_
 refine (lU (n:=v) H1).mono ?_
 rintro x h2 ⟨rfl,H2⟩
 rw [aR]
 have hfit:pre.size=2:=by rcases hc with ⟨_,_,rfl⟩ | ⟨_,_,rfl⟩ <;> rfl
 have hname:pre++cn (cE 16 (ff v))=cI c v:=by
  rcases hc with ⟨rfl,_,rfl⟩ | ⟨rfl,_,rfl⟩
  · exact Ct v
  · exact Cs v
 refine ⟨rfl,rfl,rfl,mu (x:=m) H2 rfl rfl,rfl,rfl,rfl,bu (x:=S.dir) H2 rfl rfl,rfl,nM hfit,?_⟩
 rw [hname]
 have hsb:sb (cn (bj ps))=bj ps:=bR (l7 ps)
 refine (Di (dir:=S.dir) (name:=cI c v) (b:=cn (bj ps)) W hs hm (by rw [j8]; omega) (H2.mv 3)).mono ?_
 rw [hsb]
 rintro x h3 ⟨rfl,H3⟩
 rw [aK]
 by_cases he:(A.put S.dir (cI c v) (bj ps)).2=0
 · have e2:S.lay A c v ps=((A.put S.dir (cI c v) (bj ps)).1,gP S c v,0):=by unfold eT.lay; rw [he,al rfl]
   rw [e2] at hQ;rw [he,show (((0:Nat):Int)==0)=true from rfl,ab,aY]
   rcases hc with ⟨rfl,rfl,rfl⟩ | ⟨rfl,rfl,rfl⟩
   · refine bJ (H3.mv 1) rfl ?_;refine (wY (v:=v) O.upD hD (H3.mv 2)).mono ?_;rintro x h4 ⟨a',c',rfl,H4⟩;rw [aF,aY];refine cd (H4.mv 2) (show 2<4 by decide) rfl fun h5 H5=>hQ h5 ?_;exact cU (S:=gP S 100 v) (H5.ordT 4 [0,1,3,2])
   · refine bJ (H3.mv 1) rfl ?_;refine (wY (v:=v) O.upN hN (H3.mv 3)).mono ?_;rintro x h4 ⟨a',c',rfl,H4⟩;rw [aF,aY];refine cd (H4.mv 2) (show 3<4 by decide) rfl fun h5 H5=>hQ h5 ?_;exact cU (S:=gP S 110 v) (H5.ordT 4 [0,3,1,2])
 · have e2:S.lay A c v ps=((A.put S.dir (cI c v) (bj ps)).1,S,(A.put S.dir (cI c v) (bj ps)).2):=by unfold eT.lay; rw [ak he]
   rw [e2] at hQ;rw [show ((((A.put S.dir (cI c v) (bj ps)).2:Nat):Int)==0)=false from by rw [beq_eq_false_iff_ne]; omega,aa];exact hQ h3 (cU (H3.ordT 4 [1,2,3,0]))
theorem sE {c fld:Nat} {pre:ByteArray} {v:Int} {ps:gX} {la:Option Addr} {lc:Nat} {Q:Value→Heap→Prop} (hc:(c=100∧fld=2∧pre=⟨#[100,46]⟩)∨(c=110∧fld=3∧pre=⟨#[110,46]⟩)) (O:mH S) (W:A.WF) (hs:A.steps+20<1099511627776) (hm:A.files.length+20<1099511627776)
  (hD:S.D.length<100000000) (hN:S.N.length<100000000) (hw:oY ps) (H:aD (aL 50 2 la ps.length lc (ps.flatMap pairC)::be r m S::bg m A::F) h)
  (hQ:∀ h',aD (be r m (S.layG A c v ps).2.1::bg m (S.layG A c v ps).1::F) h'→Q (.int .i64 (((S.layG A c v ps).2.2:Nat):Int)) h') :
  aC prog 68 [.slice la ps.length lc] h fun r5 h_6=>∃ (x4:ByteArray),∃ (x5:Int),r5=.tuple #[.string x4,.int .i64 x5]∧
   (bif (x5:Int)!=0 then Q (.int .i64 x5) h_6 else Iz (some ⟨r,0,none⟩) v pre x4 fld h_6 Q):=by
 refine (Dj (F:=aL 50 2 la ps.length lc (ps.flatMap pairC)::be r m S::bg m A::F) (fun h' hh=>aI hh) rfl hw.len hw.each hw.all H).mono ?_
 rintro x h1 ⟨rfl,H1⟩
 unfold xJ
 by_cases hb:16777216<(bj ps).length
 · rw [al hb];refine ⟨.empty,42,rfl,?_⟩;rw [show ((42:Int)!=0)=true from rfl,ab];have e:S.layG A c v ps=(A,S,42):=al hb;rw [e] at hQ;exact hQ h1 H1.drop
 · rw [ak hb];refine ⟨cn (bj ps),0,rfl,?_⟩;rw [show ((0:Int)!=0)=false from rfl,aa];have e:S.layG A c v ps=S.lay A c v ps:=ak hb;rw [e] at hQ;exact Ac hc O W hs hm hD hN (by omega) H1.drop hQ
open Classical in
noncomputable def eM (S:eT) (A:AF.FS) (v:Int) (was now:Tb.T VT):AF.FS×eT×Nat:=if v<1∨1099511627776<v then (A,S,2) else S.layG A 100 v (bo (mrg was now))
set_option maxHeartbeats 2000000 in
theorem DE {v:Int} {pa pb:Option Addr} {n k ca cb:Nat} {was now:Tb.T VT} (O:mH S) (W:A.WF) (hs:A.steps+20<1099511627776) (hm:A.files.length+20<1099511627776)
  (hD:S.D.length<100000000) (hN:S.N.length<100000000) (hra:EU (be r m S::bg m A::F) pa was) (hrb:EU (be r m S::bg m A::F) pb now) (hna:was.length=n) (hnb:now.length=k) (hn:n<1000000) (hk:k<1000000) (hf:BF (bo (mrg was now)))
  (H:aD (be r m S::bg m A::F) h) :
  aC prog 26 [aJ r,.int .i64 v,.slice pa n ca,.slice pb k cb] h fun x h'=>x=.int .i64 (((eM S A v was now).2.2:Nat):Int)∧aD (be r m (eM S A v was now).2.1::bg m (eM S A v was now).1::F) h':=by
 apply JI.ap
 unfold Oy eM
 by_cases hv1:v<1
 · rw [af hv1,ab,al (.inl hv1)];exact ⟨rfl,H⟩
 rw [ae hv1,aa]
 by_cases hv2:1099511627776<v
 · rw [af (show v>1099511627776 from hv2),ab,al (.inr hv2)];exact ⟨rfl,H⟩
 rw [ae (show ¬ v>1099511627776 from hv2),aa,ak (by omega)]
 refine (TS.F67_spec hra hrb hna hnb (by omega) (by omega) H).mono ?_
 rintro x h1 ⟨sa,q,c,rfl,hq,H1⟩
 rw [aF]
 subst hq
 generalize hd:mrg was now=d at *
 have hdl:d.length≤2000000:=by
  have:=TS.mrg_len (was.length+now.length) (a:=was) (b:=now) (av _);rw [hd] at this;omega
 have hks:∀ x∈d,x.1.size≤1000000:=fun x hx=>by
  have:=(hf.2.2 (kP x) (List.mem_map.2 ⟨x,hx,rfl⟩)).1;unfold kP at this;split at this <;> simp only [ByteArray.size_append] at this <;> omega
 refine aU.upto d.length (fun i (s:Sl×Int) h'=>s.2=(i:Int)∧i≤d.length∧s.1.l=(bo (d.take i)).length∧aD (aL 50 2 s.1.a (bo (d.take i)).length s.1.c ((bo (d.take i)).flatMap pairC)::aL 149 3 sa d.length c (d.flatMap gk)::be r m S::bg m A::F) h') (fun s=>d.length - s.2.toNat) (fun i s h2 hh=>⟨hh.2.1,by rw [hh.1]; omega⟩)
  ⟨rfl,au _,rfl,bG 50 2 H1⟩ ?_ ?_
 · rintro i ⟨⟨la,ll,lc⟩,s2⟩ h2 again hi ⟨rfl,_,rfl,H2⟩ go;dsimp only at H2 ⊢;rw [af (show ((i:Int)<(d.length:Int)) by omega),ab];have hw:wrap .i64 ((i:Int)+1)=((i+1:Nat):Int):=aH (by omega);rw [hw];obtain ⟨⟨kk,y,g⟩,hx⟩:∃ x,d[i]? = some x:=⟨_,ah hi⟩
   have hkz:kk.size≤1000000:=hks _ (ai hx);have hpl:(bo (d.take i)).length≤i:=by unfold bo; rw [an,aq]; omega
   have e2:bo (d.take (i+1))=bo (d.take i)++[kP (kk,y,g)]:=by
    unfold bo;rw [ax,hx,map_append]
    rfl
   have rd:∀ {h':Heap} {j:Nat} {x:Value} {K:Addr→Prop},(gk (kk,y,g))[j]? = some x→aD (aL 50 2 la (bo (d.take i)).length lc ((bo (d.take i)).flatMap pairC)::aL 149 3 sa d.length c (d.flatMap gk)::be r m S::bg m A::F) h'→(∀ a,ck h' (a.add j)=some x→K a)→aM sa d.length (i:Int) 3 K:=fun {h' j x K} hj H' hK=>by
    refine ce (f:=gk) (sz:=3) (fun _=>rfl) (by decide) (aI (H'.mv 1)) rfl hx fun b2 hb2 hc2=>hK _ (hc2 j _ hj)
   have one:(⟨#[43]⟩:ByteArray).size=1:=rfl;have one':(⟨#[45]⟩:ByteArray).size=1:=rfl;have push:∀ {h':Heap} {a b:ByteArray} {K:Value→Heap→Prop},(a,b)=kP (kk,y,g)→aD (aL 50 2 la (bo (d.take i)).length lc ((bo (d.take i)).flatMap pairC)::aL 149 3 sa d.length c (d.flatMap gk)::be r m S::bg m A::F) h'→
    (∀ a' c' h'',aD (aL 50 2 a' (bo (d.take (i+1))).length c' ((bo (d.take (i+1))).flatMap pairC)::aL 149 3 sa d.length c (d.flatMap gk)::be r m S::bg m A::F) h''→K (.slice a' (bo (d.take (i+1))).length c') h'')→
    Al h' (.cells #[.string a,.string b] 50) fun b0 h_2=>bi prog (append_ #[41,41] 41 #[.slice la (bo (d.take i)).length lc,.slice (some (Addr.mk b0 0 none)) 1 1]) h_2 K:=fun {h' a b K} hab H' hK=>by
    refine aQ H' fun b0 h3 H3=>?_;refine iW zI ox oT (H3.mv 1) (n:=1) (ys:=pairC (a,b)) (bV (lm H3 rfl) rfl) (by intro u hu; simp [pairC] at hu; rcases hu with rfl | rfl <;> rfl) (by omega) fun a' c' h4 _ H4=>?_;have e3:(bo (d.take i)).length+1=(bo (d.take (i+1))).length:=by rw [e2,am]; rfl
    have e4:(bo (d.take i)).flatMap pairC++pairC (a,b)=(bo (d.take (i+1))).flatMap pairC:=by rw [e2,flatMap_append,hab]; simp
    rw [e3,e4] at H4;rw [e3];exact hK a' c' h4 (H4.ordT 2 [0])
   refine rd (j:=2) (x:=.bool g) rfl H2 fun a0 hc0=>⟨.bool g,hc0,g,rfl,?_⟩
   cases g with
   | true=>
     rw [ab];refine rd (j:=0) (x:=.string kk) rfl H2 fun a1 hc1=>⟨.string kk,hc1,kk,rfl,by omega,?_⟩
     refine push (by rfl) H2 fun a' c' h3 H3=>?_;rw [aF];exact go _ _ ⟨rfl,by omega,rfl,H3⟩
   | false=>
     rw [aa];refine rd (j:=0) (x:=.string kk) rfl H2 fun a1 hc1=>⟨.string kk,hc1,kk,rfl,by omega,?_⟩
     refine rd (j:=1) (x:=.string y) rfl H2 fun a2 hc2=>⟨.string y,hc2,y,rfl,?_⟩
     refine TS.Al_and rfl ?_;refine push (by rfl) H2 fun a' c' h3 H3=>?_;rw [aF];exact go _ _ ⟨rfl,by omega,rfl,H3⟩
 · rintro ⟨⟨la,ll,lc⟩,s2⟩ h2 again ⟨rfl,_,rfl,H2⟩;dsimp only at H2 ⊢;rw [ae (by omega),aa];rw [take_length] at H2 ⊢;exact sE (v:=v) (Q:=fun x h'=>x=.int .i64 (((S.layG A 100 v (bo d)).2.2:Nat):Int)∧aD (be r m (S.layG A 100 v (bo d)).2.1::bg m (S.layG A 100 v (bo d)).1::F) h') (.inl ⟨rfl,rfl,rfl⟩) O W hs hm hD hN hf.writes (H2.ordT 4 [0,2,3]) fun h' H'=>⟨rfl,H'⟩
set_option maxHeartbeats 2000000 in
theorem DD {v:Int} (O:mH S) (W:A.WF) (hs:A.steps+20<1099511627776) (hm:A.files.length+20<1099511627776) (hD:S.D.length≤5000) (hN:S.N.length<100000000) (H:aD (be r m S::bg m A::F) h) :
  aC prog 28 [aJ r,.int .i64 v] h fun x h'=>x=.int .i64 (((j0 S A v).2.2:Nat):Int)∧aD (be r m (j0 S A v).2.1::bg m (j0 S A v).1::F) h':=by
 apply JG.ap
 unfold Ow j0
 by_cases hv1:v<1
 · rw [af hv1,ab,al (.inl hv1)];exact ⟨rfl,H⟩
 rw [ae hv1,aa]
 by_cases hv2:1099511627776<v
 · rw [af (show v>1099511627776 from hv2),ab,al (.inr hv2)];exact ⟨rfl,H⟩
 rw [ae (show ¬ v>1099511627776 from hv2),aa,ak (by omega),aY]
 obtain ⟨a1,c1,a2,c2,H1⟩:=dS H
 refine bJ H1 rfl ?_
 refine (ri (v:=v) (aI (H1.mv 2)) rfl (by omega)).mono ?_
 rintro x h1 ⟨rfl,rfl⟩
 rw [bE]
 by_cases hmem:(v,())∈S.N
 · rw [af hmem,ab,al hmem];exact ⟨rfl,H⟩
 rw [ae hmem,aa,ak hmem]
 refine (rn (v:=v) O W hD (by omega) H).mono ?_
 rintro x h2 (⟨u,t,c,hu,rfl,H2⟩ | ⟨e,hu,e0,rfl,H2⟩)
 rotate_left
 · refine ⟨none,0,0,(e:Int),rfl,?_⟩;rw [bm e0,ab,hu];exact ⟨rfl,H2⟩
 refine ⟨t,u.length,c,0,rfl,?_⟩
 rw [show ((0:Int)!=0)=false from rfl,aa,hu]
 exact sE (v:=v) (Q:=fun x h'=>x=.int .i64 (((S.layG A 110 v u).2.2:Nat):Int)∧aD (be r m (S.layG A 110 v u).2.1::bg m (S.layG A 110 v u).1::F) h') (.inr ⟨rfl,rfl,rfl⟩) O W hs hm (by omega) hN (kG hu hD) H2 fun h' H'=>⟨rfl,H'⟩
end
def HK (e:Nat):Prop:=e=60∨e=61∨e=62∨e=65
namespace AF
theorem qu {A:FS} {dir a:ByteArray} (h:(A.remove dir a).2≠0):HK (A.remove dir a).2:=by
 unfold FS.remove at h ⊢
 split
 · rename_i e he;exact entry_err he
 · rename_i he;rw [he] at h;unfold FS.step at h ⊢;split
   · exact .inl rfl
   · rename_i hf;simp only [ak hf] at h;exact absurd rfl h
theorem nY {α:Type} {dir:ByteArray} {c:Nat} {p:Int→Bool}:∀ (l:List Int) (A:FS) (T:List (Int×α)) (s:Bool),(fY dir c p l A T s).2.2.2=0→(fY dir c p l A T s).2.1=T.filter (fun q => !(decide (q.1∈l)&&p q.1))
 | [],A,T,s,h=>by
   unfold fY;rw [An];intro x hx;simp
 | n::l,A,T,s,h=>by
   by_cases hp:p n=true
   · by_cases he:(A.remove dir (cI c n)).2=0
     · rw [pH hp he] at h ⊢;rw [nY l _ _ _ h];unfold rG;rw [List.filter_filter];apply filter_congr;intro q _;by_cases hq:q.1=n
       · simp [hq,hp]
       · simp [hq]
     · rw [qP hp he] at h;exact absurd h he
   · rw [pG hp] at h ⊢;rw [nY l _ _ _ h];apply filter_congr;intro q _;by_cases hq:q.1=n
     · simp [hq,hp]
     · simp [hq]
theorem us {α:Type} {dir:ByteArray} {c:Nat} {p:Int→Bool}:∀ (l:List Int) (A:FS) (T:List (Int×α)) (s:Bool),Gr l.length A (fY dir c p l A T s).1
 | [],A,T,s=>Gr.same _ A
 | n::l,A,T,s=>by
   unfold fY;split
   · have h1:=kg A dir (cI c n);split
     · exact (h1.trans (us l _ _ _)).le (by rw [ao]; omega)
     · exact h1.le (by rw [ao]; omega)
   · exact (us l A T s).le (by rw [ao]; omega)
end AF
section
variable {F:List aG} {h:Heap} {r m:Nat} {S:eT} {A:AF.FS} {dir:ByteArray}
theorem sH {D:List (Int×Unit)} {p:Int→Bool} {i:Nat} {x:Int×Unit} (hx:D[i]? = some x):(D.take (i+1)).filter (fun q => !p q.1)=if p x.1=true then (D.take i).filter (fun q => !p q.1) else (D.take i).filter (fun q => !p q.1)++[x]:=by
 rw [ax,hx,filter_append]
 by_cases h:p x.1=true
 · rw [al h];simp [h]
 · rw [ak h];simp [h]
theorem vY {D:List (Int×Unit)} {p:Int→Bool}:D.filter (fun q => !(decide (q.1∈D.map (·.1))&&p q.1))=D.filter fun q => !p q.1:=by
 apply filter_congr
 intro q hq
 rw [af (List.mem_map.2 ⟨q,hq,rfl⟩),Bool.true_and]
set_option maxHeartbeats 4000000 in
theorem DC {below:Int} (O:mH S) (W:A.WF) (hs:A.steps+S.D.length+S.N.length+20<1099511627776) (hD:S.D.length<100000000) (hN:S.N.length<100000000) (H:aD (be r m S::bg m A::F) h) :
  aC prog 29 [aJ r,.int .i64 below] h fun x h'=>x=.int .i64 (((S.drop A below).2.2:Nat):Int)∧∃ S',aD (be r m S'::bg m (S.drop A below).1::F) h'∧(S'=(S.drop A below).2.1∨HK (S.drop A below).2.2):=by
 apply JF.ap
 unfold Ov
 refine (wX (v:=below) O (by omega) H).mono ?_
 rintro x h1 ⟨rfl,rfl⟩
 rw [aK]
 unfold eT.drop
 dsimp only
 generalize hat:dI (S.N.map (·.1)) below=at_
 by_cases h0:at_=0
 · rw [li h0,ab,al h0];exact ⟨rfl,S,H,.inl rfl⟩
 rw [jq h0,aa,ak h0]
 let St:Nat→AF.FS×List (Int×Unit)×Bool×Nat:=fun i=>fY S.dir 100 (fun n=>decide (n≤at_)) ((S.D.map (·.1)).take i) A S.D false
 have hStall:St S.D.length=fY S.dir 100 (fun n=>decide (n≤at_)) (S.D.map (·.1)) A S.D false:=by
  show fY _ _ _ ((S.D.map (·.1)).take S.D.length) _ _ _=_;rw [ar (by rw [an]; exact av _)]
 have wfSt:∀ i,(St i).1.WF∧(St i).1.steps≤A.steps+i:=fun i=>by
  have:=AF.qO (dir:=S.dir) (c:=100) (p:=fun n=>decide (n≤at_)) ((S.D.map (·.1)).take i) A S.D false W;rw [aq] at this;exact ⟨this.1,Nat.le_trans (show (St i).1.steps≤_ from this.2) (by omega)⟩
 let K1:Nat→List (Int×Unit):=fun i=>(S.D.take i).filter fun q => !(decide (q.1≤at_))
 have klen:∀ i,(K1 i).length≤S.D.length:=fun i=>Nat.le_trans (length_filter_le _ _) (by rw [aq]; omega)
 obtain ⟨a1,c1,a2,c2,H0⟩:=dS H
 refine aU.upto S.D.length (fun i (s:Bool×Sl×Int) h'=>s.2.2=(i:Int)∧i≤S.D.length∧(St i).2.2.2=0∧s.1=(St i).2.2.1∧s.2.1.l=(K1 i).length∧aD (aL 2 1 s.2.1.a (K1 i).length s.2.1.c (ou (K1 i))::pt r (.cells (nC m S.dir a1 S.D.length c1 a2 S.N.length c2) 78 (0,0))::aL 2 1 a1 S.D.length c1 (ou S.D)::aL 2 1 a2 S.N.length c2 (ou S.N)::bg m (St i).1::F) h') (fun s=>S.D.length - s.2.2.toNat) (fun i s h' hh=>⟨hh.2.1,by rw [hh.1]; omega⟩)
  ⟨rfl,au _,rfl,rfl,rfl,bG 2 1 H0⟩ ?_ ?_
 · rintro i ⟨sb0,⟨oa,ol,oc⟩,s3⟩ h2 again hi ⟨rfl,_,herr,rfl,rfl,K⟩ go;dsimp only at K ⊢;obtain ⟨x,hx⟩:∃ x,S.D[i]? = some x:=⟨_,ah hi⟩
   have hni:(S.D.map (·.1))[i]? = some x.1:=by rw [getElem?_map,hx]; rfl
   have hst:St (i+1)=fY S.dir 100 (fun n=>decide (n≤at_)) [x.1] (St i).1 (St i).2.1 (St i).2.2.1:=by
    show fY _ _ _ ((S.D.map (·.1)).take (i+1)) _ _ _=_;rw [ax,hni];exact AF.lC _ _ _ _ _ herr
   have hk:=sH (p:=fun n=>decide (n≤at_)) hx;have hw:wrap .i64 ((i:Int)+1)=((i+1:Nat):Int):=aH (by omega);obtain ⟨Wi,hsi⟩:=wfSt i;rw [aY];refine bJ (K.mv 1) rfl ?_;rw [af (show ((i:Int)<(S.D.length:Int)) by omega),ab,aY];refine bJ (K.mv 1) rfl ?_;refine fT (aI (K.mv 2)) rfl hx ?_;rw [hw];by_cases hgt:x.1>at_
   · rw [af hgt,ab,aY];refine bJ (K.mv 1) rfl ?_;refine fT (aI (K.mv 2)) rfl hx ?_;refine iS rfl (by have:=klen i; omega) K fun a' c' h3 K3=>?_;rw [aF];have hp:¬ (fun n=>decide (n≤at_)) x.1=true:=by simp; omega
     have hst2:St (i+1)=St i:=by
      rw [hst,AF.pG hp];show ((St i).1,(St i).2.1,(St i).2.2.1,0)=St i;rw [← herr]
     have e:K1 (i+1)=K1 i++[(x.1,())]:=by
      have:K1 (i+1)=K1 i++[x]:=by
       show (S.D.take (i+1)).filter _=_;rw [hk,ak hp]
      rw [this]
     refine go _ _ ⟨rfl,by omega,by rw [hst2]; exact herr,by rw [hst2],by rw [e],?_⟩;rw [hst2,e];exact K3
   · rw [ae hgt,aa,aY];have hp:(fun n=>decide (n≤at_)) x.1=true:=by simp; omega
     refine mu (x:=m) (K.mv 1) rfl ?_;rw [aY];refine bu (x:=S.dir) (K.mv 1) rfl ?_;rw [aY];refine bJ (K.mv 1) rfl ?_;refine fT (aI (K.mv 2)) rfl hx ?_;refine (lU (n:=x.1) K).mono ?_;rintro y h3 ⟨rfl,K3⟩;rw [aR];refine ⟨rfl,rfl,rfl,mu (x:=m) (K3.mv 1) rfl rfl,rfl,rfl,rfl,bu (x:=S.dir) (K3.mv 1) rfl rfl,nM rfl,?_⟩;rw [Ct];refine (lT (dir:=S.dir) (name:=cI 100 x.1) Wi (by omega) (K3.mv 4)).mono ?_;rintro y h4 ⟨rfl,K4⟩;rw [aK];have e:K1 (i+1)=K1 i:=by
      show (S.D.take (i+1)).filter _=_;rw [hk,al hp]
     by_cases hr:((St i).1.remove S.dir (cI 100 x.1)).2=0
     · have hst2:St (i+1)=(((St i).1.remove S.dir (cI 100 x.1)).1,rG x.1 (St i).2.1,true,0):=by
        rw [hst,AF.pH hp hr]
        rfl
       rw [hr,show (((0:Nat):Int)!=0)=false from rfl,aa];refine go _ _ ⟨rfl,by omega,by rw [hst2],by rw [hst2],by rw [e],?_⟩;rw [hst2,e];exact K4.ordT 5 [1,2,3,4,0]
     · have hst2:St (i+1)=(((St i).1.remove S.dir (cI 100 x.1)).1,(St i).2.1,(St i).2.2.1,((St i).1.remove S.dir (cI 100 x.1)).2):=by
        rw [hst];exact AF.qP hp hr
       rw [bm hr,ab];have htot:fY S.dir 100 (fun n=>decide (n≤at_)) (S.D.map (·.1)) A S.D false=St (i+1):=by
        have e1:S.D.map (·.1)=(S.D.map (·.1)).take (i+1)++(S.D.map (·.1)).drop (i+1):=(take_append_drop ..).symm
        conv=>lhs; rw [e1]
        refine AF.lD _ _ _ _ _ ?_;have:(St (i+1)).2.2.2≠0:=by rw [hst2]; exact hr
        exact this
       rw [htot,hst2,al hr];exact ⟨rfl,S,cU (K4.ordT 5 [2,3,4,0]),.inr (AF.qu hr)⟩
 · rintro ⟨sb0,⟨oa,ol,oc⟩,s3⟩ h2 again ⟨rfl,_,herr,rfl,rfl,K⟩;dsimp only at K ⊢;obtain ⟨W1,hs1⟩:=wfSt S.D.length;rw [aY];refine bJ (K.mv 1) rfl ?_;rw [ae (by omega),aa];have hK1:K1 S.D.length=(St S.D.length).2.1:=by
    rw [hStall] at herr ⊢;rw [AF.nY _ _ _ _ herr];refine Eq.trans ?_ (vY (D:=S.D) (p:=fun n=>decide (n≤at_))).symm;show (S.D.take S.D.length).filter _=_;rw [take_length]
   rw [← hStall,ak (not_not_intro herr)];generalize hR1:St S.D.length=R1 at *;rw [hK1] at K ⊢;clear hStall wfSt hK1
   let Su:Nat→AF.FS×List (Int×Unit)×Bool×Nat:=fun i=>fY S.dir 110 (fun n=>decide (n<at_)) ((S.N.map (·.1)).take i) R1.1 S.N R1.2.2.1
   have hSuall:Su S.N.length=fY S.dir 110 (fun n=>decide (n<at_)) (S.N.map (·.1)) R1.1 S.N R1.2.2.1:=by
    show fY _ _ _ ((S.N.map (·.1)).take S.N.length) _ _ _=_;rw [ar (by rw [an]; exact av _)]
   have wfSu:∀ i,(Su i).1.WF∧(Su i).1.steps≤R1.1.steps+i:=fun i=>by
    have:=AF.qO (dir:=S.dir) (c:=110) (p:=fun n=>decide (n<at_)) ((S.N.map (·.1)).take i) R1.1 S.N R1.2.2.1 W1;rw [aq] at this;exact ⟨this.1,Nat.le_trans (show (Su i).1.steps≤_ from this.2) (by omega)⟩
   let K2:Nat→List (Int×Unit):=fun i=>(S.N.take i).filter fun q => !(decide (q.1<at_))
   have klen2:∀ i,(K2 i).length≤S.N.length:=fun i=>Nat.le_trans (length_filter_le _ _) (by rw [aq]; omega);refine aU.upto S.N.length (fun i (s:Bool×Sl×Int) h'=>s.2.2=(i:Int)∧i≤S.N.length∧(Su i).2.2.2=0∧s.1=(Su i).2.2.1∧s.2.1.l=(K2 i).length∧aD (aL 2 1 s.2.1.a (K2 i).length s.2.1.c (ou (K2 i))::aL 2 1 oa R1.2.1.length oc (ou R1.2.1)::pt r (.cells (nC m S.dir a1 S.D.length c1 a2 S.N.length c2) 78 (0,0))::aL 2 1 a1 S.D.length c1 (ou S.D)::aL 2 1 a2 S.N.length c2 (ou S.N)::bg m (Su i).1::F) h') (fun s=>S.N.length - s.2.2.toNat) (fun i s h' hh=>⟨hh.2.1,by rw [hh.1]; omega⟩)
    ⟨rfl,au _,rfl,rfl,rfl,bG 2 1 K⟩ ?_ ?_
   · rintro i ⟨sb1,⟨ua,ul,uc⟩,s3⟩ h3 again1 hi ⟨rfl,_,herr1,rfl,rfl,K⟩ go;dsimp only at K ⊢;obtain ⟨x,hx⟩:∃ x,S.N[i]? = some x:=⟨_,ah hi⟩
     have hni:(S.N.map (·.1))[i]? = some x.1:=by rw [getElem?_map,hx]; rfl
     have hst:Su (i+1)=fY S.dir 110 (fun n=>decide (n<at_)) [x.1] (Su i).1 (Su i).2.1 (Su i).2.2.1:=by
      show fY _ _ _ ((S.N.map (·.1)).take (i+1)) _ _ _=_;rw [ax,hni];exact AF.lC _ _ _ _ _ herr1
     have hk:=sH (p:=fun n=>decide (n<at_)) hx;have hw:wrap .i64 ((i:Int)+1)=((i+1:Nat):Int):=aH (by omega);obtain ⟨Wi,hsi⟩:=wfSu i;rw [aY];refine bJ (K.mv 2) rfl ?_;rw [af (show ((i:Int)<(S.N.length:Int)) by omega),ab,aY];refine bJ (K.mv 2) rfl ?_;refine fT (aI (K.mv 4)) rfl hx ?_;rw [hw];by_cases hge:x.1≥at_
     · rw [af hge,ab,aY];refine bJ (K.mv 2) rfl ?_;refine fT (aI (K.mv 4)) rfl hx ?_;refine iS rfl (by have:=klen2 i; omega) K fun a' c' h4 K3=>?_;rw [aF];have hp:¬ (fun n=>decide (n<at_)) x.1=true:=by simp; omega
       have hst2:Su (i+1)=Su i:=by
        rw [hst,AF.pG hp];show ((Su i).1,(Su i).2.1,(Su i).2.2.1,0)=Su i;rw [← herr1]
       have e:K2 (i+1)=K2 i++[(x.1,())]:=by
        have:K2 (i+1)=K2 i++[x]:=by
         show (S.N.take (i+1)).filter _=_;rw [hk,ak hp]
        rw [this]
       refine go _ _ ⟨rfl,by omega,by rw [hst2]; exact herr1,by rw [hst2],by rw [e],?_⟩;rw [hst2,e];exact K3
     · rw [ae hge,aa,aY];have hp:(fun n=>decide (n<at_)) x.1=true:=by simp; omega
       refine mu (x:=m) (K.mv 2) rfl ?_;rw [aY];refine bu (x:=S.dir) (K.mv 2) rfl ?_;rw [aY];refine bJ (K.mv 2) rfl ?_;refine fT (aI (K.mv 4)) rfl hx ?_;refine (lU (n:=x.1) K).mono ?_;rintro y h4 ⟨rfl,K3⟩;rw [aR];refine ⟨rfl,rfl,rfl,mu (x:=m) (K3.mv 2) rfl rfl,rfl,rfl,rfl,bu (x:=S.dir) (K3.mv 2) rfl rfl,nM rfl,?_⟩;rw [Cs];refine (lT (dir:=S.dir) (name:=cI 110 x.1) Wi (by omega) (K3.mv 5)).mono ?_;rintro y h5 ⟨rfl,K4⟩;rw [aK];have e:K2 (i+1)=K2 i:=by
        show (S.N.take (i+1)).filter _=_;rw [hk,al hp]
       by_cases hr:((Su i).1.remove S.dir (cI 110 x.1)).2=0
       · have hst2:Su (i+1)=(((Su i).1.remove S.dir (cI 110 x.1)).1,rG x.1 (Su i).2.1,true,0):=by
          rw [hst,AF.pH hp hr]
          rfl
         rw [hr,show (((0:Nat):Int)!=0)=false from rfl,aa];refine go _ _ ⟨rfl,by omega,by rw [hst2],by rw [hst2],by rw [e],?_⟩;rw [hst2,e];exact K4.ordT 6 [1,2,3,4,5,0]
       · have hst2:Su (i+1)=(((Su i).1.remove S.dir (cI 110 x.1)).1,(Su i).2.1,(Su i).2.2.1,((Su i).1.remove S.dir (cI 110 x.1)).2):=by
          rw [hst];exact AF.qP hp hr
         rw [bm hr,ab];have htot:fY S.dir 110 (fun n=>decide (n<at_)) (S.N.map (·.1)) R1.1 S.N R1.2.2.1=Su (i+1):=by
          have e1:S.N.map (·.1)=(S.N.map (·.1)).take (i+1)++(S.N.map (·.1)).drop (i+1):=(take_append_drop ..).symm
          conv=>lhs; rw [e1]
          refine AF.lD _ _ _ _ _ ?_;have:(Su (i+1)).2.2.2≠0:=by rw [hst2]; exact hr
          exact this
         rw [htot,hst2,al hr];exact ⟨rfl,S,cU (K4.ordT 6 [3,4,5,0]),.inr (AF.qu hr)⟩
   · rintro ⟨sb1,⟨ua,ul,uc⟩,s3⟩ h3 again1 ⟨rfl,_,herr1,rfl,rfl,K⟩;dsimp only at K ⊢;obtain ⟨W2,hs2⟩:=wfSu S.N.length;rw [aY];refine bJ (K.mv 2) rfl ?_;rw [ae (by omega),aa];have hK2:K2 S.N.length=(Su S.N.length).2.1:=by
      rw [hSuall] at herr1 ⊢;rw [AF.nY _ _ _ _ herr1];refine Eq.trans ?_ (vY (D:=S.N) (p:=fun n=>decide (n<at_))).symm;show (S.N.take S.N.length).filter _=_;rw [take_length]
     rw [← hSuall,ak (not_not_intro herr1)];generalize hR2:Su S.N.length=R2 at *;rw [hK2] at K ⊢;rw [aY];refine cd (K.mv 2) (show 2<4 by decide) rfl fun h4 K4=>?_;rw [aY];refine cd K4 (show 3<4 by decide) rfl fun h5 K5=>?_;have K6:aD (be r m { S with D:=R1.2.1,N:=R2.2.1 }::bg m R2.1::F) h5:=cU (S:={ S with D:=R1.2.1,N:=R2.2.1 }) (K5.ordT 6 [0,2,1,5])
     cases hfl:R2.2.2.1 with
     | false=>
       rw [aa,ak (by decide)];exact ⟨rfl,_,K6,.inl rfl⟩
     | true=>
       rw [ab,al rfl,aY];obtain ⟨b1,d1,b2,d2,K7⟩:=dS K6;refine mu (x:=m) K7 rfl ?_;rw [aY];refine bu (x:=S.dir) K7 rfl ?_;refine (oh (dir:=S.dir) W2 (by omega) (K6.mv 1)).mono ?_;rintro y h6 ⟨rfl,K8⟩;rw [aK];exact ⟨rfl,_,K8.mv 1,.inl rfl⟩
end
end Go.Proofs.YtibdiikcigokjaaGreat
