/- SourcePlays: calls that came in; the law. -/
import Derived.Test.YtdpaiiibndnanaaGreatDoorQpSoG
import Derived.Test.YtdpaiiibndnanaaGreatDoorQpDl4
import Derived.Test.YtdpaiiibndnanaaGreatDoorQpPzX
import Derived.Test.YtdpaiiibndnanaaGreatDoorQpDl7
import Derived.ChangeSame
import Derived.SizedLaws
namespace Go.Proofs.YtdpaiiibndnanaaGreatDoor
open Go.Proofs.Tryz (prog)
open List (length_drop drop_zero flatMap_cons drop_eq_getElem_cons getElem?_cons_zero drop_succ_cons length_replicate)
open Go Go.RowKit Go.ChangeShapes Go.WideShapes Go.ChangeAt
set_option linter.unusedVariables false
set_option linter.unusedSimpArgs false
open AF (aU cG Gr dD e9 Rg lf cx cH dd j5 dZ cZ cj fx iS fI)
def Az (P:Program) (t:TypeId):Bool:=
 match P.underlying t with
 | some (.struct fs)=>(fs.size==2&&P.cellsOf t==2)&&(ia P fs 0 j1&&ia P fs 1 j1)
 | _=>false
def uX (P:Program) (fs:Array Field) (i off:Nat):Bool:=
 match fs[i]? with
 | some f=>f.offset==off&&(match P.underlying f.type with
   | some (.slice e)=>P.cellsOf f.type==1&&(Az P e&&P.cellsOf e==2)
   | _=>false)
 | none=>false
def uA (P:Program) (t:TypeId):Bool:=
 match P.underlying t with
 | some (.struct fs)=>(fs.size==5&&P.cellsOf t==11)&&((ia P fs 0 j1&&(ia P fs 1 j1&&ia P fs 2 j1))&&(uX P fs 3 3&&uY P fs 4 4))
 | _=>false
def j7.cells (x:j7):List Value:=x.arr.toList
structure so (h:Heap) (x:j7) (rs:List Rg):Prop where
 rd:cv h x.la (rs.flatMap fh)
 len:rs.length=x.ll
 act:kG h x.fs
def jY (h:Heap) (a:Option Addr) (acts:List j7):Prop:=
 ∀ (i:Nat) (x:j7),acts[i]? = some x→(∃ rs,so h x rs)∧∃ b,a=some b∧∀ (j:Nat) (v:Value),x.cells[j]? = some v→bI h (b.add (i*11+j))=some v
theorem yA {α:Type} {f:α→List Value} {sz:Nat} (hf:∀ x,(f x).length=sz) (hp:0<sz) {h:Heap} {a:Addr} {xs:List α} (hx:∀ (i:Nat) (x:α),xs[i]? = some x→∀ (j:Nat) (v:Value),(f x)[j]? = some v→bI h (a.add (i*sz+j))=some v):cv h (some a) (xs.flatMap f):=by
 intro k v hv
 have hk:=(ak.1 hv).1
 have hfl:(xs.flatMap f).length=xs.length*sz:=by
  clear hx hv hk
  induction xs with
  | nil=>simp
  | cons x xs ih=>rw [flatMap_cons,ao,ih,hf,ar,Nat.succ_mul,Nat.add_comm]
 rw [hfl] at hk
 have hi:k / sz<xs.length:=Nat.div_lt_of_lt_mul (by rw [Nat.mul_comm]; exact hk)
 have hj:k%sz<sz:=Nat.mod_lt _ hp
 have e:k / sz*sz+k%sz=k:=Nat.div_add_mod' k sz
 obtain ⟨x,hxx⟩:∃ x,xs[k / sz]? = some x:=⟨_,ai hi⟩
 have h1:=jx hf hxx hj
 rw [e,hv] at h1
 have h2:=hx _ x hxx _ v h1.symm
 rwa [e] at h2
section
variable {H:Type} {enc:TypeId×Value→H} {P:Program} {w:World} {base:Nat} {spare:Nat→Bool} {held:Bool}
theorem Ay {e:TypeId} {n:Nat} {cs:List Value} {x:DataW H×List MemPlace} (hA:Az P e=true) (h:DataW.trod enc P w base spare held n e cs=some x):∃ p:Rg,cs=fh p:=by
 unfold Az at hA
 cases hu:P.underlying e with
 | none=>rw [hu] at hA; cases hA
 | some u=>
   rw [hu] at hA
   cases u with
   | struct fs=>
     simp only [ay,beq_iff_eq] at hA;obtain ⟨⟨hsz,hC⟩,i0,i1⟩:=hA;obtain ⟨xs,n,_,_,hlen,hxl,hr⟩:=DataW.trod_struct hu h;rw [hC] at hlen;rw [hsz] at hxl;have each:∀ i,ia P fs i j1=true→i<2→∃ z:Int,cs[i]? = some (iv z):=by
      intro i hf hi;obtain ⟨t0,u0,y0,e0,d0,r0⟩:=gk hf (by omega) (by omega) hr;rw [km d0] at e0;obtain ⟨z0,c0,_,w0⟩:=DataW.trod_int e0 r0;simp only [List.cons.injEq,and_true] at c0;exact ⟨z0,by rw [ai (by omega),c0]; rfl⟩
     obtain ⟨z0,c0⟩:=each 0 i0 (by decide);obtain ⟨z1,c1⟩:=each 1 i1 (by decide)
     match cs,hlen with
     | [v0,v1],_=>
       simp only [getElem?_cons_zero,List.getElem?_cons_succ,Option.some.injEq] at c0 c1;exact ⟨(z0,z1),by rw [c0,c1]⟩
   | _=>cases hA
theorem yu {t e:TypeId} {n:Nat} {v:Value} {x:DataW H×List MemPlace} (ht:P.underlying t=some (.slice e)) (hA:Az P e=true) (hc:P.cellsOf e=2) (h:DataW.trod enc P w base spare held n t [v]=some x) :
  ∃ (a:Option Addr) (l c:Nat) (rs:List Rg),v=.slice a l c∧cv w.heap a (rs.flatMap fh)∧rs.length=l:=by
 obtain ⟨d,pl⟩:=x
 rcases Go.Deep.open_slice ht h with ⟨hcs,_⟩ | ⟨a,len,cap,m,k,D,Pl,hcs,_,hl,_,hmm,hx,hel⟩
 · simp only [List.cons.injEq,and_true] at hcs;exact ⟨none,0,0,[],hcs,rfl,rfl⟩
 · simp only [List.cons.injEq,and_true] at hcs;rw [hc] at hel;have hlm:len≤m:=by rw [hmm]; split <;> omega
   obtain ⟨ps,hpl,hp⟩:=kv (P:=fun i (p:Rg)=>∀ (j:Nat) (v:Value),(fh p)[j]? = some v→bI w.heap (a.add (i*2+j))=some v) len fun i hi=>by
    obtain ⟨cs',h1,h2⟩:=hel i (by omega);obtain ⟨p,e1⟩:=Ay hA h2;refine ⟨p,fun j v hj=>?_⟩;obtain ⟨_,_,hcell⟩:=World.cells?_some h1;have hj2:j<2:=(ak.1 hj).1;have:=hcell j hj2;rw [e1,dU,bm] at this;rw [this];exact hj
   exact ⟨some a,len,cap,ps,hcs,yA (sz:=2) (fun _=>rfl) (by decide) fun i x hi=>hp i x hi,hpl⟩
theorem AO {fs:Array Field} {i off n:Nat} {cs:List Value} {xs:List (DataW H×List MemPlace)} (hf:uX P fs i off=true) (hx:i<xs.length) (hl:off<cs.length)
  (hr:∀ (i:Nat) (f:Field),fs[i]? = some f→DataW.trod enc P w base spare held n f.type ((cs.drop f.offset).take (P.cellsOf f.type))=xs[i]?) :
  ∃ (a:Option Addr) (l c:Nat) (rs:List Rg),cs[off]? = some (.slice a l c)∧cv w.heap a (rs.flatMap fh)∧rs.length=l:=by
 unfold uX at hf
 cases hi:fs[i]? with
 | none=>rw [hi] at hf; cases hf
 | some f=>
   rw [hi] at hf;simp only [ay,beq_iff_eq] at hf;obtain ⟨ho,hf⟩:=hf;split at hf
   · rename_i e he;simp only [ay,beq_iff_eq] at hf;obtain ⟨hc,hp,hc2⟩:=hf;have h1:=hr i f hi;obtain ⟨y,hy⟩:∃ y,xs[i]? = some y:=⟨_,ai hx⟩
     rw [ho,hc,hy] at h1;obtain ⟨v,hv⟩:∃ v,cs[off]? = some v:=⟨_,ai hl⟩
     have e1:(cs.drop off).take 1=[v]:=by
      rw [drop_eq_getElem_cons hl];rw [ai hl] at hv;rw [← Option.some.inj hv]
      rfl
     rw [e1] at h1;obtain ⟨a,l,c,rs,rfl,h2,h3⟩:=yu he hp hc2 h1;exact ⟨a,l,c,rs,hv,h2,h3⟩
   · cases hf
theorem wB {t:TypeId} {fuel:Nat} {cs:List Value} {x:DataW H×List MemPlace} (hA:uA P t=true) (h:DataW.trod enc P w base spare held fuel t cs=some x):∃ v:j7,cs=v.cells∧∃ rs,so w.heap v rs:=by
 unfold uA at hA
 cases hu:P.underlying t with
 | none=>rw [hu] at hA; cases hA
 | some u=>
   rw [hu] at hA
   cases u with
   | struct fs=>
     simp only [ay,beq_iff_eq] at hA;obtain ⟨⟨hsz,hC⟩,⟨i0,i1,i2⟩,p3,hact⟩:=hA;obtain ⟨xs,n,_,hd,hlen,hxl,hr⟩:=DataW.trod_struct hu h;rw [hC] at hlen;rw [hsz] at hxl;obtain ⟨x,hx,hok⟩:=AP hact (by omega) hr;obtain ⟨la,ll,lc,rs,c3,r3,l3⟩:=AO p3 (by omega) (by omega) hr;have each:∀ i,ia P fs i j1=true→i<5→∃ z:Int,cs[i]? = some (iv z):=by
      intro i hf hi;obtain ⟨t0,u0,y0,e0,d0,r0⟩:=gk hf (by omega) (by omega) hr;rw [km d0] at e0;obtain ⟨z0,c0,_,w0⟩:=DataW.trod_int e0 r0;simp only [List.cons.injEq,and_true] at c0;exact ⟨z0,by rw [ai (by omega),c0]; rfl⟩
     obtain ⟨z0,c0⟩:=each 0 i0 (by decide);obtain ⟨z1,c1⟩:=each 1 i1 (by decide);obtain ⟨z2,c2⟩:=each 2 i2 (by decide);refine ⟨⟨z0,z1,z2,la,ll,lc,x⟩,?_,rs,r3,l3,hok⟩;have h4:cs.drop 4=x.cells:=by
      rw [← hx,av (by rw [length_drop]; omega)]
     match cs,hlen with
     | e0::e1::e2::e3::r,_=>
       simp only [getElem?_cons_zero,List.getElem?_cons_succ,Option.some.injEq] at c0 c1 c2 c3;simp only [drop_succ_cons,drop_zero] at h4;rw [c0,c1,c2,c3,h4]
       rfl
   | _=>cases hA
theorem uz {r:Reach} {b0:Nat} {t e:TypeId} {v:Value} {d:DataW H} {p:List MemPlace}
  (ht:P.underlying t=some (.slice e)) (hA:uA P e=true) (hC:P.cellsOf e=11) (hv:Value.okWide P w r b0 t v) (h:DataW.Trod enc P w base spare held t v d p) :
  ∃ (a:Option Addr) (l c:Nat) (acts:List j7),v=.slice a l c∧acts.length=l∧l≤c∧c≤maxLen∧jY w.heap a acts:=by
 obtain ⟨a,l,c,rfl⟩:=okWide_slice ht hv
 obtain ⟨fuel,hf⟩:=h
 rcases Go.Deep.open_slice ht hf with ⟨hcs,_⟩ | ⟨a',len,cap,m,n,D,Pl,hcs,hb,hl,hm,hmm,hx,hel⟩
 · simp [Value.cells] at hcs;obtain ⟨rfl,rfl,rfl⟩:=hcs;exact ⟨none,0,0,[],rfl,rfl,ax _,aw _,fun i x hx=>by simp at hx⟩
 · simp [Value.cells] at hcs;obtain ⟨rfl,rfl,rfl⟩:=hcs;rw [hC] at hel;have hlm:l≤m:=by
    rw [hmm];split <;> omega
   obtain ⟨acts,hal,hac⟩:=kv (P:=fun i (x:j7)=>(∃ rs,so w.heap x rs)∧∀ (j:Nat) (v:Value),x.cells[j]? = some v→bI w.heap (a'.add (i*11+j))=some v) l fun i hi=>by
    obtain ⟨cs',hc1,hc2⟩:=hel i (by omega);obtain ⟨x,hx,hok⟩:=wB hA hc2;refine ⟨x,hok,fun j v hj=>?_⟩;obtain ⟨_,_,hcell⟩:=World.cells?_some hc1;have hj11:j<11:=(ak.1 hj).1;have:=hcell j hj11;rw [hx,hj,dU,bm] at this;exact this
   refine ⟨some a',l,c,acts,rfl,hal,hl,hm,fun i x hi=>?_⟩;obtain ⟨h1,h2⟩:=hac i x hi;exact ⟨h1,a',rfl,h2⟩
end
theorem jY.at {h:Heap} {a:Option Addr} {acts:List j7} {l i:Nat} {x:j7} {K:Addr→Prop} (H:jY h a acts) (hl:acts.length=l) (hi:acts[i]? = some x)
  (hK:∀ b,a=some b→(∀ (j:Nat) (v:Value),x.cells[j]? = some v→bI h ((b.add (i*11)).add j)=some v)→K (b.add (i*11))):aO a l (i:Int) 11 K:=by
 obtain ⟨_,b,hb,hc⟩:=H i x hi
 have:=(ak.1 hi).1
 refine ⟨b,hb,by omega,by omega,?_⟩
 rw [Int.toNat_natCast]
 exact hK b hb fun j v hj=>by rw [bm]; exact hc j v hj
theorem jY.old {h h':Heap} {F:List aF} {a:Option Addr} {acts:List j7} (H:jY h a acts) (hs:aG (old h::F) h'):jY h' a acts:=by
 intro i x hi
 obtain ⟨⟨rs,h1⟩,b,hb,hc⟩:=H i x hi
 exact ⟨⟨rs,h1.rd.old hs,h1.len,h1.act.old hs⟩,b,hb,fun j v hj=>hs.oldCell (hc j v hj)⟩
section
variable {f m n:Nat} {s t:Option Addr} {brk:Bool} {w:Sl} {A:AF.FS} {hh:Heap}
theorem SI.all {G:List aF} (H:SI f m s t brk w A n G hh):∃ ws:List Rg,ws.length=w.l∧w.l≤5∧aG (OW w ws::bV f A::bd m A::G) hh:=by
 obtain ⟨ws,hw,hw5,⟨_,H⟩ | ⟨_,b,r,ls,_,_,_,H⟩⟩:=H
 · exact ⟨ws,hw,hw5,H⟩
 · exact ⟨ws,hw,hw5,H.drop.drop⟩
theorem SI.frame {O:aF} (HI:SI f m s t brk w A n [O] hh):∃ Z,aG (O::Z) hh∧∀ (P:aF) h',aG (P::O::Z) h'→SI f m s t brk w A n [P,O] h':=by
 obtain ⟨ws,hw,hw5,⟨h1,H⟩ | ⟨h1,b,r,ls,e1,e2,I,H⟩⟩:=HI
 · exact ⟨[OW w ws,bV f A,bd m A],H.ordT 4 [3,0,1,2],fun P h' H'=>⟨ws,hw,hw5,.inl ⟨h1,H'.ordT 5 [2,3,4,0,1]⟩⟩⟩
 · exact ⟨[dN b f ls,d9 r m ls,OW w ws,bV f A,bd m A],H.ordT 6 [5,0,1,2,3,4],fun P h' H'=>⟨ws,hw,hw5,.inr ⟨h1,b,r,ls,e1,e2,I,H'.ordT 7 [2,3,4,5,6,0,1]⟩⟩⟩
theorem SI.drop {P O:aF} (HI:SI f m s t brk w A n [P,O] hh):SI f m s t brk w A n [O] hh:=by
 obtain ⟨ws,hw,hw5,⟨h1,H⟩ | ⟨h1,b,r,ls,e1,e2,I,H⟩⟩:=HI
 · exact ⟨ws,hw,hw5,.inl ⟨h1,H.ordT 5 [0,1,2,4]⟩⟩
 · exact ⟨ws,hw,hw5,.inr ⟨h1,b,r,ls,e1,e2,I,H.ordT 7 [0,1,2,3,4,6]⟩⟩
theorem SI.more {G:List aF} (hn:n≤4500) (HI:SI f m s t brk w A n G hh):SI f m s t brk w A (n+2) G hh:=by
 obtain ⟨ws,hw,hw5,⟨h1,H⟩ | ⟨h1,b,r,ls,e1,e2,I,H⟩⟩:=HI
 · exact ⟨ws,hw,hw5,.inl ⟨h1,H⟩⟩
 · exact ⟨ws,hw,hw5,.inr ⟨h1,b,r,ls,e1,e2,I.grow (by omega) (by omega),H⟩⟩
theorem yN {b0 i:Nat} {hh0:Heap} {y:j7} {rl:List Rg} {parts size:Int} {again:St→Heap→Prop} {Q:Value→Heap→Prop} (W:A.WF) (hst:A.steps+200000<1099511627776) (hfl:A.files.length+200000<1099511627776) (hn:n≤4500) (hn2:4096≤n) (hi:i<1000000) (hy:so hh0 y rl) (hL:rn y.fs) (hlm:y.ll≤300)
  (hnb:0≤y.k→y.k<5→brk=false) (HI:SI f m s t brk w A n (PS b0 y::[old hh0]) hh) (go:sx f m A n i (PS b0 y::[old hh0]) again) :
  tY (some ⟨f,0,none⟩) (some ⟨m,0,none⟩) parts size b0 (s,t,brk,w,(i:Int)) hh again Q:=by
 by_cases k5:y.k=5
 · obtain ⟨ws,hw,hw5,H⟩:=HI.all;exact Ft k5 W hst hfl hn hn2 hi hw hw5 H go
 by_cases hk:0≤y.k∧y.k<5
 · have hb:=hnb hk.1 hk.2;obtain ⟨ws,hw,hw5,⟨h1,_⟩ | ⟨_,b,r,ls,rfl,rfl,I,H⟩⟩:=HI
   · rw [hb] at h1; cases h1
   subst hb;by_cases k0:y.k=0
   · exact Fw k0 W hst hfl hn hi hL I hw hw5 H go
   by_cases k1:y.k=1
   · exact Fv k1 W hst hn hi I hw hw5 H go
   by_cases k3:y.k=3
   · exact Fu k3 W hn hi hy.rd hy.len hlm I hw hw5 H go
   · exact Dx (by omega) W hn hi hy.rd hy.len hlm I hw hw5 H go
 · exact Fs (by omega) W hst hfl hn hi hy.act hL HI go
end
theorem HM {F:List aF} {b:Nat} {e:TypeId} {a0 a1 a2 a3 a4 a5 a6 a7 a8 a9 a10 b0 b1 b2 b3 b4 b5 b6 b7 b8 b9 b10:Value} {h0:Heap} {K:Heap→Prop} (H0:aG (pt b (.cells #[a0,a1,a2,a3,a4,a5,a6,a7,a8,a9,a10] e (0,0))::F) h0) (hK:∀ h',aG (pt b (.cells #[b0,b1,b2,b3,b4,b5,b6,b7,b8,b9,b10] e (0,0))::F) h'→K h') :
  bN h0 ((Addr.mk b 0 none).add 0) b0 fun h1=>bN h1 ((Addr.mk b 0 none).add 1) b1 fun h2=>bN h2 ((Addr.mk b 0 none).add 2) b2 fun h3=>bN h3 ((Addr.mk b 0 none).add 3) b3 fun h4=>bN h4 ((Addr.mk b 0 none).add 4) b4 fun h5=>bN h5 ((Addr.mk b 0 none).add 5) b5 fun h6=>bN h6 ((Addr.mk b 0 none).add 6) b6 fun h7=>bN h7 ((Addr.mk b 0 none).add 7) b7 fun h8=>bN h8 ((Addr.mk b 0 none).add 8) b8 fun h9=>bN h9 ((Addr.mk b 0 none).add 9) b9 fun h10=>bN h10 ((Addr.mk b 0 none).add 10) b10 fun h11=>K h11:=by
 refine ct H0 (show (0:Nat)<11 by decide) rfl fun h1 G1=>?_
 have H1:aG (pt b (.cells #[b0,a1,a2,a3,a4,a5,a6,a7,a8,a9,a10] e (0,0))::F) h1:=G1
 clear G1 H0
 refine ct H1 (show (1:Nat)<11 by decide) rfl fun h2 G2=>?_
 have H2:aG (pt b (.cells #[b0,b1,a2,a3,a4,a5,a6,a7,a8,a9,a10] e (0,0))::F) h2:=G2
 clear G2 H1
 refine ct H2 (show (2:Nat)<11 by decide) rfl fun h3 G3=>?_
 have H3:aG (pt b (.cells #[b0,b1,b2,a3,a4,a5,a6,a7,a8,a9,a10] e (0,0))::F) h3:=G3
 clear G3 H2
 refine ct H3 (show (3:Nat)<11 by decide) rfl fun h4 G4=>?_
 have H4:aG (pt b (.cells #[b0,b1,b2,b3,a4,a5,a6,a7,a8,a9,a10] e (0,0))::F) h4:=G4
 clear G4 H3
 refine ct H4 (show (4:Nat)<11 by decide) rfl fun h5 G5=>?_
 have H5:aG (pt b (.cells #[b0,b1,b2,b3,b4,a5,a6,a7,a8,a9,a10] e (0,0))::F) h5:=G5
 clear G5 H4
 refine ct H5 (show (5:Nat)<11 by decide) rfl fun h6 G6=>?_
 have H6:aG (pt b (.cells #[b0,b1,b2,b3,b4,b5,a6,a7,a8,a9,a10] e (0,0))::F) h6:=G6
 clear G6 H5
 refine ct H6 (show (6:Nat)<11 by decide) rfl fun h7 G7=>?_
 have H7:aG (pt b (.cells #[b0,b1,b2,b3,b4,b5,b6,a7,a8,a9,a10] e (0,0))::F) h7:=G7
 clear G7 H6
 refine ct H7 (show (7:Nat)<11 by decide) rfl fun h8 G8=>?_
 have H8:aG (pt b (.cells #[b0,b1,b2,b3,b4,b5,b6,b7,a8,a9,a10] e (0,0))::F) h8:=G8
 clear G8 H7
 refine ct H8 (show (8:Nat)<11 by decide) rfl fun h9 G9=>?_
 have H9:aG (pt b (.cells #[b0,b1,b2,b3,b4,b5,b6,b7,b8,a9,a10] e (0,0))::F) h9:=G9
 clear G9 H8
 refine ct H9 (show (9:Nat)<11 by decide) rfl fun h10 G10=>?_
 have H10:aG (pt b (.cells #[b0,b1,b2,b3,b4,b5,b6,b7,b8,b9,a10] e (0,0))::F) h10:=G10
 clear G10 H9
 refine ct H10 (show (10:Nat)<11 by decide) rfl fun h11 G11=>?_
 have H11:aG (pt b (.cells #[b0,b1,b2,b3,b4,b5,b6,b7,b8,b9,b10] e (0,0))::F) h11:=G11
 clear G11 H10
 exact hK _ H11
set_option maxHeartbeats 2000000 in
theorem nV {room:Nat} {parts size:Int} {a:Option Addr} {l c:Nat} {acts:List j7} (h:Heap) (hroom:room<65536) (HA:jY h a acts) (hl:acts.length=l) (hm:l≤maxLen):aE prog 7 [.int .u16 (room:Int),.int .i64 parts,.int .i64 size,.slice a l c] h (zl h):=by
 apply Ed.ap
 unfold IH
 refine (Be (Aw h)).mono ?_
 rintro v h0 ⟨rfl,H0⟩
 rw [bO,aB,ab,IntWalk.i64_in (room:Int) (by omega)]
 refine (um (room:=room) H0 (by omega)).mono ?_
 rintro v h1 ⟨f,rfl,H1⟩
 refine ⟨some ⟨f,0,none⟩,0,rfl,?_⟩
 refine (zV (room:=room) H1 (by omega)).mono ?_
 rintro v h2 ⟨m,rfl,H2⟩
 refine ⟨some ⟨m,0,none⟩,0,rfl,?_⟩
 have W0:AF.FS.WF ⟨room,0,none,false,[],[]⟩:=yK (by omega)
 generalize hA0:(⟨room,0,none,false,[],[]⟩:AF.FS)=A0 at *
 have hs0:A0.steps=0:=by rw [← hA0]
 have hf0:A0.files.length=0:=by rw [← hA0]; rfl
 obtain ⟨W',G1,IL⟩:=AF.oT parts size W0
 have g1:=G1.1
 have g2:=G1.2
 have loop:∀ (s t:Option Addr) (brk:Bool) (w:Sl) (A:AF.FS) (hh:Heap),A.WF→A.steps≤100000→A.files.length≤100000→SI f m s t brk w A 4096 [old h] hh→
   Ie (some ⟨f,0,none⟩) (some ⟨m,0,none⟩) parts size a l (s,t,brk,w,(0:Int)) hh (zl h):=by
  intro s t brk w A hh W hst hfl HI;unfold Ie;refine bf.upto l (fun i (st:St) h'=>st.2.2.2.2=(i:Int)∧i≤l∧i≤80∧∃ A:AF.FS,A.WF∧A.steps≤100000*(i+1)∧A.files.length≤100000*(i+1)∧SI f m st.1 st.2.1 st.2.2.1 st.2.2.2.1 A (4096+2*i) [old h] h') (fun st=>((l:Int) - st.2.2.2.2).toNat)
   (by rintro i st h' ⟨e,hi,_⟩; rw [e]; exact ⟨hi,by omega⟩) ⟨rfl,aw _,aw _,A,W,by omega,by omega,HI⟩ ?_ ?_
  rotate_left
  · rintro ⟨s,t,brk,w,j⟩ h4 again ⟨rfl,hi,_,A,W,_,_,HI⟩;dsimp only;rw [af (by omega),ab];obtain ⟨ws,_,_,H4⟩:=HI.all;exact n9 (H4.mv 3)
  rintro i ⟨s,t,brk,w,j⟩ h4 again hlt ⟨rfl,hi,h80,A,W,hst,hfl,HI⟩ hagain;dsimp only at HI ⊢;rw [ah (show ((i:Int)<(l:Int)) by omega),ae];obtain ⟨ws0,_,_,HIa⟩:=HI.all
  rcases Nat.lt_or_ge i 80 with h1c | h1c
  rotate_left
  · rw [af (show ¬ ((i:Int)<80) by omega),ab];exact n9 (HIa.mv 3)
  rw [ah (show ((i:Int)<80) by omega),ae];obtain ⟨y,hx⟩:∃ x,acts[i]? = some x:=⟨_,ai (by omega)⟩
  obtain ⟨⟨rl,hok⟩,_⟩:=HA i _ hx;have hy:kG h y.fs:=hok.act;obtain ⟨Z,H4,toSI⟩:=HI.frame;refine (HA.old H4).at hl hx fun ba hba hc=>?_;refine ⟨_,hc 0 _ rfl,_,hc 1 _ rfl,_,hc 2 _ rfl,_,hc 3 _ rfl,_,hc 4 _ rfl,_,hc 5 _ rfl,_,hc 6 _ rfl,_,hc 7 _ rfl,_,hc 8 _ rfl,_,hc 9 _ rfl,_,hc 10 _ rfl,?_⟩;refine ⟨y.k,y.part,y.most,y.la,y.ll,y.lc,y.fs.k,y.fs.dir,y.fs.name,y.fs.b,y.fs.n,y.fs.turn,y.fs.pa,y.fs.pl,y.fs.pc,rfl,?_⟩;refine aW H4 fun b0 h5 H5=>?_;refine HM H5 fun h16 H16=>?_;have HB:aG (PS b0 y::old h::Z) h16:=H16;clear H5 H16;simp only [bm];refine dX (v:=.int .i64 y.fs.k) HB rfl (dX (v:=.string y.fs.dir) HB rfl (dX (v:=.string y.fs.name) HB rfl (dX (v:=.string y.fs.b) HB rfl (dX (v:=.int .i64 y.fs.n) HB rfl (dX (v:=.int .u8 y.fs.turn) HB rfl (dX (v:=.slice y.fs.pa y.fs.pl y.fs.pc) HB rfl ?_))))));refine ⟨y.fs.k,y.fs.dir,y.fs.name,y.fs.b,y.fs.n,y.fs.turn,y.fs.pa,y.fs.pl,y.fs.pc,rfl,?_⟩;refine aW HB fun b1 h17 H17=>?_;have H17':aG (pt b1 (.cells y.fs.arr 66 (0,0))::PS b0 y::old h::Z) h17:=H17;refine (zU (AC H17' (hy.old (H17'.mv 2))) (l:=1) rfl (by decide)).mono ?_;rintro v h18 ⟨rfl,z,rfl,hz⟩;rw [bO]
  cases z with
  | true=>exact n9 (H17'.mv 2)
  | false=>
  rw [ab];have hL:=(hz rfl).2 y.fs (List.mem_singleton.2 rfl);have HP:aG (PS b0 y::old h::Z) h18:=H17'.drop;have HS:SI f m s t brk w A (4096+2*i) [PS b0 y,old h] h18:=toSI _ _ HP;have go:sx f m A (4096+2*i) i [PS b0 y,old h] again:=fun s' t' brk' w' A' h' W' G' HI'=>by
   have e1:=G'.1;have e2:=G'.2;exact hagain _ _ ⟨rfl,hlt,by omega,A',W',by omega,by omega,HI'.drop⟩
  refine bH (i:=3) (a:=y.la) (l:=y.ll) (m:=y.lc) HP rfl ?_;by_cases h300:y.ll>300
  · rw [ah (by omega),ae];exact n9 (H17'.mv 2)
  rw [af (by omega),ab];have kin:(0≤y.k→y.k<5→brk=false)→tY (some ⟨f,0,none⟩) (some ⟨m,0,none⟩) parts size b0 (s,t,brk,w,(i:Int)) h18 again (zl h):=fun hnb=>
   yN W (by omega) (by omega) (by omega) (by omega) (by omega) hok hL (by omega) hnb HS go
  refine cB HP rfl ?_;by_cases hk0:0≤y.k
  · rw [ah (show y.k≥0 from hk0),ae];refine cB HP rfl ?_;by_cases hk3:y.k<5
    · rw [ah hk3,ae]
      cases hb:brk with
      | true=>
        rw [ae,aN (by omega)];rw [hb] at HS;exact go s t true w A _ W (Gr.same _ A) (HS.more (by omega))
      | false=>
        rw [ab];rw [hb] at kin;exact kin fun _ _=>rfl
    · rw [af hk3,ab];exact kin fun _ h=>absurd h hk3
  · rw [af (show ¬ y.k≥0 from hk0),ab];exact kin fun h _=>absurd h hk0
 refine (wd (parts:=parts) (size:=size) W0 (by omega) (H2.mv 1)).mono ?_
 rintro v h3 (⟨b,ls,ho,rfl,H3⟩ | ⟨e,ho,e0,rfl,H3⟩)
 · refine ⟨some ⟨b,0,none⟩,0,rfl,?_⟩;refine (mD (parts:=parts) (size:=size) W0 (by omega) (by omega) (H3.mv 2)).mono ?_;rintro v h4 (⟨r,ls2,ho2,rfl,H4⟩ | ⟨e,ho2,_⟩)
   rotate_left
   · rw [ho] at ho2; cases ho2
   rw [ho] at ho2;cases ho2;refine ⟨some ⟨r,0,none⟩,0,rfl,?_⟩;rw [show ((0:Int)!=0)=false from rfl,ab];refine (ul (parts:=parts) H4).mono ?_;rintro v h5 ⟨wa,n,wc,hn5,_,rfl,H5⟩;rw [aI];obtain ⟨_,hl4,_,hfit⟩:=IL ls ho;exact loop _ _ false ⟨wa,n,wc⟩ _ h5 W' (by omega) (by omega) ⟨dY n,length_replicate,hn5,.inr ⟨rfl,b,r,ls,rfl,rfl,⟨hl4,hfit⟩,H5.ordT 6 [3,1,0,4,2,5]⟩⟩
 · refine ⟨none,(e:Int),rfl,?_⟩;refine (mD (parts:=parts) (size:=size) W0 (by omega) (by omega) (H3.mv 1)).mono ?_;rintro v h4 (⟨r,ls2,ho2,_⟩ | ⟨e2,ho2,_,rfl,H4⟩)
   · rw [ho] at ho2; cases ho2
   rw [ho] at ho2;cases ho2;refine ⟨none,(e:Int),rfl,?_⟩;rw [bne_self_eq_false,ab,aX e0];refine (ul (parts:=parts) H4).mono ?_;rintro v h5 ⟨wa,n,wc,hn5,_,rfl,H5⟩;rw [aI];exact loop _ _ true ⟨wa,n,wc⟩ _ h5 W' (by omega) (by omega) ⟨dY n,length_replicate,hn5,.inl ⟨rfl,H5.ordT 4 [0,2,1,3]⟩⟩
end Go.Proofs.YtdpaiiibndnanaaGreatDoor
