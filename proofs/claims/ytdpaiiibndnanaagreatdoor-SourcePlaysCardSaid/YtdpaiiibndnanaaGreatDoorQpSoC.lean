/- The document's log: Read. -/
import Derived.Test.YtdpaiiibndnanaaGreatDoorQpSoB
import Derived.Test.YtdpaiiibndnanaaGreatDoorQpSo8
namespace Go.Proofs.YtdpaiiibndnanaaGreatDoor
open Go.Builtin (append_)
open Go.IntKind (wrap)
open Go.Proofs.Tryz (prog)
open List (length_drop append_assoc map_append drop_zero drop_of_length_le length_nil drop_eq_getElem_cons)
open Go Go.RowKit
set_option linter.unusedVariables false
set_option linter.unusedSimpArgs false
open AF (aU cG Gr iM kV)
open Frame (aY)
def DU (q:Except Nat (List (List Nat))) (G:List aF) (v:Value) (h':Heap):Prop:=
 (∃ out a c,q=.ok out∧v=.tuple #[.slice a out.length c,.int .i64 0]∧aG (aQ 9 1 a out.length c (out.map sv)::G) h')∨
 (∃ e:Nat,q=.error e∧e≠0∧v=.tuple #[.slice none 0 0,.int .i64 (e:Int)]∧aG G h')
theorem Dt {g:List (List Nat)} {b lo hi j:Nat} (h:b+j<lo):(g.take (min (hi - b) (j+1))).drop (lo - b)=(g.take (min (hi - b) j)).drop (lo - b):=by
 rw [drop_of_length_le (by rw [au]; omega),drop_of_length_le (by rw [au]; omega)]
theorem Dv {g:List (List Nat)} {b lo hi j:Nat} (h:hi≤b+j):(g.take (min (hi - b) (j+1))).drop (lo - b)=(g.take (min (hi - b) j)).drop (lo - b):=by
 rw [show min (hi - b) (j+1)=min (hi - b) j by omega]
theorem Du {g:List (List Nat)} {b lo hi j:Nat} {y:List Nat} (h1:lo≤b+j) (h2:b+j<hi) (hy:g[j]? = some y):(g.take (min (hi - b) (j+1))).drop (lo - b)=(g.take (min (hi - b) j)).drop (lo - b)++[y]:=by
 have hl:=(ak.1 hy).1
 rw [show min (hi - b) (j+1)=j+1 by omega,show min (hi - b) j=j by omega,az,hy,Option.toList_some]
 rw [List.drop_append_of_le_length (by rw [au]; omega)]
section
variable {r m:Nat} {L:aU} {A:AF.FS} {F:List aF} {h:Heap} {k:Nat}
theorem As {a:Option Addr} {c l:Nat} {D:List (List Nat)} {y:List Nat} {s:ByteArray} {K:Value→Heap→Prop} (hs:s=dW y) (hl:D.length=l) (hb:l<4000000000000) (H:aG (aQ 9 1 a l c (D.map sv)::F) h)
  (hK:∀ a' c' h',aG (aQ 9 1 a' (D++[y]).length c' ((D++[y]).map sv)::F) h'→K (.slice a' (D++[y]).length c') h') :
  Al h (.cells #[.string s] 9) fun b0 h1=>bB prog (append_ #[116,116] 116 #[.slice a l c,.slice (some (Addr.mk b0 0 none)) 1 1]) h1 K:=by
 subst hl hs
 refine aW H fun b0 h1 H1=>?_
 refine gr HF yg DC (H1.mv 1) (n:=1) (ys:=[sv y]) (bJ (ge H1 rfl) rfl) (by intro u hu; simp at hu; subst hu; rfl) (by omega) fun a' c' h2 _ H2=>?_
 have e1:D.map sv++[sv y]=(D++[y]).map sv:=by rw [map_append]; rfl
 have e2:D.length+1=(D++[y]).length:=by rw [ao]; rfl
 rw [e1,e2] at H2
 rw [e2]
 exact hK a' c' h2 (H2.ordT 2 [0])
set_option maxHeartbeats 2000000 in
theorem zI {lo hi:Int} (W:A.WF) (I:L.Fit k) (H:aG (eI r m L::bd m A::F) h) :
  aE prog 48 [aM r,.int .i64 lo,.int .i64 hi] h (DU (L.read A lo hi) (eI r m L::bd m A::F)):=by
 obtain ⟨a,c,H1⟩:=fX H
 apply Es.ap
 unfold IZ
 rw [I.read]
 have S:=I.small
 have hfin:=S.fin
 have hfew:=S.few
 have hmany:=S.many
 by_cases h1:lo<0
 · rw [ah h1,ae,an (.inl h1)];exact .inr ⟨101,rfl,by decide,rfl,H⟩
 rw [af h1,ab]
 by_cases h2:hi<lo
 · rw [ah h2,ae,an (.inr (.inl h2))];exact .inr ⟨101,rfl,by decide,rfl,H⟩
 rw [af h2,ab,aK]
 refine bM (x:=(L.fin:Int)) H1 rfl ?_
 by_cases h3:(L.fin:Int)<hi
 · rw [ah (show hi>(L.fin:Int) from h3),ae,an (.inr (.inr h3))];exact .inr ⟨101,rfl,by decide,rfl,H⟩
 rw [af (show ¬ hi>(L.fin:Int) from h3),ab,am (by rintro (h | h | h) <;> omega)]
 obtain ⟨lo,rfl⟩:∃ n:Nat,lo=(n:Int):=⟨lo.toNat,by omega⟩
 obtain ⟨hi,rfl⟩:∃ n:Nat,hi=(n:Int):=⟨hi.toNat,by omega⟩
 rw [Int.toNat_natCast,Int.toNat_natCast]
 simp only [aK]
 have hcn:=kV L.parts 0 L.fin (fun p hp=>aw _) I.chain (fun p hp=>I.end_le hp) (aw _)
 refine ⟨fun st hh=>∃ (i:Nat) (oa:Option Addr) (oc:Nat) (out:List (List Nat)),st=(⟨oa,out.length,oc⟩,(i:Int))∧i≤L.parts.length∧aU.readD A L.dir lo hi L.parts []=aU.readD A L.dir lo hi (L.parts.drop i) out∧out.length+iM (L.parts.drop i)≤L.fin∧
   aG (aQ 9 1 oa out.length oc (out.map sv)::pt r (.cells (eJ m L a c) 121 (0,0))::aQ 168 3 a L.parts.length c (bA L.parts)::bd m A::F) hh,
  fun st _=>((L.parts.length:Int) - st.2).toNat,⟨0,none,0,[],rfl,aw _,rfl,by rw [drop_zero,length_nil]; exact hcn,bR 9 1 H1⟩,?_⟩
 rintro st h4 ⟨i,oa,oc,out,rfl,hi2,hall,hcnt,H4⟩
 dsimp only
 refine bH (a:=a) (l:=L.parts.length) (m:=c) (H4.mv 1) rfl ?_
 by_cases hil:i<L.parts.length
 rotate_left
 · rw [af (by omega),ab,hall,drop_of_length_le (by omega)];have H5:aG (eI r m L::aQ 9 1 oa out.length oc (out.map sv)::bd m A::F) h4:=cK (H4.ordT 3 [1,2,0]);exact .inl ⟨out,oa,oc,rfl,rfl,H5.ordT 2 [1,0]⟩
 rw [ah (show ((i:Int)<(L.parts.length:Int)) by omega),ae]
 obtain ⟨p,hp⟩:∃ p,L.parts[i]? = some p:=⟨_,ai hil⟩
 have hdrop:L.parts.drop i=p::L.parts.drop (i+1):=by
  rw [drop_eq_getElem_cons hil];congr 1;exact (ak.1 hp).2
 have hpe:=I.end_le (aj hp)
 have ec:iM (L.parts.drop i)=p.count+iM (L.parts.drop (i+1)):=by rw [hdrop]; rfl
 refine bH (a:=a) (l:=L.parts.length) (m:=c) (H4.mv 1) rfl ?_
 refine oh (aH (H4.mv 2)) rfl hp fun b d0 d1 d2=>⟨_,d0,_,d1,_,d2,_,_,_,rfl,?_⟩
 refine aW H4 fun b0 h5 H5=>?_
 refine ct (c':=#[iv (p.base:Int),iv 0,iv 0]) H5 (show (0:Nat)<3 by decide) rfl fun h6 H6=>?_
 refine ct (c':=#[iv (p.base:Int),iv (p.count:Int),iv 0]) H6 (show (1:Nat)<3 by decide) rfl fun h7 H7=>?_
 refine ct (c':=#[iv (p.base:Int),iv (p.count:Int),iv (p.size:Int)]) H7 (show (2:Nat)<3 by decide) rfl fun h8 H8=>?_
 have wi:wrap .i64 ((i:Int)+1)=((i+1:Nat):Int):=by rw [IntWalk.i64_in _ (by omega)]; rfl
 rw [wi]
 have less:((L.parts.length:Int) - ((i+1:Nat):Int)).toNat<((L.parts.length:Int) - (i:Int)).toNat:=by omega
 have skip:(lo=hi∨p.base+p.count≤lo∨hi≤p.base)→∃ (j:Nat) (oa':Option Addr) (oc':Nat) (out':List (List Nat)),((⟨oa,out.length,oc⟩,((i+1:Nat):Int)):Sl×Int)=(⟨oa',out'.length,oc'⟩,(j:Int))∧j≤L.parts.length∧aU.readD A L.dir lo hi L.parts []=aU.readD A L.dir lo hi (L.parts.drop j) out'∧out'.length+iM (L.parts.drop j)≤L.fin∧
   aG (aQ 9 1 oa' out'.length oc' (out'.map sv)::pt r (.cells (eJ m L a c) 121 (0,0))::aQ 168 3 a L.parts.length c (bA L.parts)::bd m A::F) h8:=fun hs=>
  ⟨i+1,oa,oc,out,rfl,by omega,by rw [hall,hdrop]; conv=>lhs; unfold aU.readD
                                 rw [an hs],by omega,H8.drop⟩
 by_cases e1:lo=hi
 · rw [show (((lo:Nat):Int)==(hi:Int))=true from by rw [e1]; simp,ae];exact ⟨skip (.inl e1),less⟩
 rw [show (((lo:Nat):Int)==(hi:Int))=false from by rw [beq_eq_false_iff_ne]; omega,ab]
 refine bM (x:=(p.base:Int)) H8 rfl ?_
 refine bM (x:=(p.count:Int)) H8 rfl ?_
 rw [IntWalk.i64_in ((p.base:Int)+(p.count:Int)) (by omega)]
 by_cases e2:p.base+p.count≤lo
 · rw [ah (by omega),ae];exact ⟨skip (.inr (.inl e2)),less⟩
 rw [af (by omega),ab]
 refine bM (x:=(p.base:Int)) H8 rfl ?_
 by_cases e3:hi≤p.base
 · rw [ah (by omega),ae];exact ⟨skip (.inr (.inr e3)),less⟩
 rw [af (by omega),ab]
 have hstep:∀ out',aU.readD A L.dir lo hi (p::L.parts.drop (i+1)) out'=match A.read L.dir (cG p.base) with
  | .error e=>.error e
  | .ok bs=>if (bp bs).length<p.count then .error 70 else aU.readD A L.dir lo hi (L.parts.drop (i+1)) (out'++((bp bs).take (min (hi - p.base) p.count)).drop (lo - p.base)):=fun out'=>by
  conv=>lhs; unfold aU.readD
  rw [am (by omega)];cases A.read L.dir (cG p.base) <;> rfl
 refine dK (H8.mv 2) rfl ?_
 refine bz (H8.mv 2) rfl ?_
 refine bM (x:=(p.base:Int)) H8 rfl ?_
 refine (iP (n:=p.base) (by omega) H8).mono ?_
 rintro v h9 ⟨rfl,H9⟩
 rw [aT]
 refine ⟨rfl,rfl,rfl,dK (H9.mv 2) rfl rfl,rfl,rfl,rfl,bz (H9.mv 2) rfl rfl,?_⟩
 refine (pJ (dir:=L.dir) (name:=cG p.base) W (H9.mv 4)).mono ?_
 rintro v h10 ⟨rfl,rfl⟩
 have shut:∀ {hh:Heap} {G:List aF},aG (pt r (.cells (eJ m L a c) 121 (0,0))::aQ 168 3 a L.parts.length c (bA L.parts)::G) hh→aG (eI r m L::G) hh:=fun H=>cK H
 cases hrd:A.read L.dir (cG p.base) with
 | error e=>
   refine ⟨.empty,(e:Int),rfl,?_⟩;rw [aX (AF.read_err hrd),ae,hall,hdrop,hstep,hrd];exact .inr ⟨e,rfl,AF.read_err hrd,rfl,shut (H9.ordT 5 [2,3,4])⟩
 | ok bs=>
   obtain ⟨h8,hlen⟩:=AF.nZ W hrd;have hz:=dC h8;refine ⟨dW bs,0,rfl,?_⟩;rw [show ((0:Int)!=0)=false from rfl,ab];have hgl:=gX h8;refine (tT (s:=dW bs) H9 (by omega)).mono ?_;rw [dx h8];rintro v h11 ⟨ga,gc,G,rfl,H10,hG⟩;refine ⟨ga,_,gc,_,rfl,?_⟩;refine bM (x:=(p.count:Int)) (H10.mv 1) rfl ?_;by_cases hsh:(bp bs).length<p.count
   · rw [ah (by omega),ae,hall,hdrop,hstep,hrd];dsimp only;rw [an hsh];exact .inr ⟨70,rfl,by decide,rfl,shut (H10.ordT 6 [3,4,5])⟩
   rw [af (by omega),ab];refine ⟨fun st hh=>∃ (j:Nat) (oa:Option Addr) (oc:Nat),st=(⟨oa,(out++((bp bs).take (min (hi - p.base) j)).drop (lo - p.base)).length,oc⟩,(j:Int))∧j≤p.count∧
    aG (aQ 9 1 oa (out++((bp bs).take (min (hi - p.base) j)).drop (lo - p.base)).length oc ((out++((bp bs).take (min (hi - p.base) j)).drop (lo - p.base)).map sv)::G::pt b0 (.cells #[iv (p.base:Int),iv (p.count:Int),iv (p.size:Int)] 168 (0,0))::
     pt r (.cells (eJ m L a c) 121 (0,0))::aQ 168 3 a L.parts.length c (bA L.parts)::bd m A::F) hh,
    fun st _=>((p.count:Int) - st.2).toNat,⟨0,oa,oc,by simp,aw _,?_⟩,?_⟩
   · have e:out++((bp bs).take (min (hi - p.base) 0)).drop (lo - p.base)=out:=by simp
     rw [e];exact H10.ordT 3 [2,0,1]
   rintro st h12 ⟨j,oa2,oc2,rfl,hj,H12⟩;dsimp only;refine bM (x:=(p.count:Int)) (H12.mv 2) rfl ?_;by_cases hjl:j<p.count
   rotate_left
   · rw [af (by omega),ab];have hje:j=p.count:=by omega
     rw [hje] at H12 ⊢;refine ⟨⟨i+1,oa2,oc2,_,rfl,by omega,?_,?_,H12.ordT 3 [0]⟩,less⟩
     · rw [hall,hdrop,hstep,hrd];dsimp only;rw [am hsh]
     · rw [ao,length_drop,au];omega
   rw [ah (show ((j:Int)<(p.count:Int)) by omega),ae];have wj:wrap .i64 ((j:Int)+1)=((j+1:Nat):Int):=by rw [IntWalk.i64_in _ (by omega)]; rfl
   rw [wj];have lessj:((p.count:Int) - ((j+1:Nat):Int)).toNat<((p.count:Int) - (j:Int)).toNat:=by omega
   refine bM (x:=(p.base:Int)) (H12.mv 2) rfl ?_;rw [IntWalk.i64_in ((p.base:Int)+(j:Int)) (by omega)];by_cases c1:(p.base:Int)+(j:Int)≥(lo:Int)
   rotate_left
   · rw [af c1,ab];have em:=Dt (g:=bp bs) (b:=p.base) (lo:=lo) (hi:=hi) (j:=j) (by omega);exact ⟨⟨j+1,oa2,oc2,by rw [em],by omega,by rw [em]; exact H12⟩,lessj⟩
   rw [ah c1,ae];refine bM (x:=(p.base:Int)) (H12.mv 2) rfl ?_;rw [IntWalk.i64_in ((p.base:Int)+(j:Int)) (by omega)];by_cases c2:(p.base:Int)+(j:Int)<(hi:Int)
   rotate_left
   · rw [af c2,ab];have em:=Dv (g:=bp bs) (b:=p.base) (lo:=lo) (hi:=hi) (j:=j) (by omega);exact ⟨⟨j+1,oa2,oc2,by rw [em],by omega,by rw [em]; exact H12⟩,lessj⟩
   rw [ah c2,ae];obtain ⟨y,hy⟩:∃ y,(bp bs)[j]? = some y:=⟨_,ai (by omega)⟩
   have hyv:((bp bs).map sv)[j]? = some (.string (dW y)):=by rw [List.getElem?_map,hy]; rfl
   refine bj (v:=.string (dW y)) (hG _ _ (H12.mv 1)) (aq _) hyv fun b2 hb2 hc2=>⟨_,hc2,dW y,rfl,?_⟩
   have em:=Du (g:=bp bs) (b:=p.base) (lo:=lo) (hi:=hi) (j:=j) (by omega) (by omega) hy;refine As (y:=y) rfl rfl (by rw [ao,length_drop,au]; omega) H12 fun a' c' h13 H13=>?_;rw [aI];rw [append_assoc,← em] at H13 ⊢;exact ⟨⟨j+1,a',c',rfl,by omega,H13⟩,lessj⟩
theorem zM {rs:List (Int×Int)} {a:Option Addr} {n c:Nat} (hr:cv h a (rs.flatMap fh)) (hn:rs.length=n) :
  aE prog 41 [.slice a n c] h fun v h'=>v=.bool (AF.cx rs)∧h'=h:=by
 apply Ex.ap
 unfold I8
 have short:¬ (1≤n∧n≤4)→AF.cx rs=false:=fun hh=>by
  cases hr:AF.cx rs with
  | false=>rfl
  | true=>
    unfold AF.cx at hr;simp only [ay,decide_eq_true_eq] at hr;omega
 by_cases h1:n=0
 · rw [h1,show (((0:Nat):Int)==0)=true from rfl,ae,short (by omega)];exact ⟨rfl,rfl⟩
 rw [show (((n:Nat):Int)==0)=false from by rw [beq_eq_false_iff_ne]; omega,ab]
 by_cases h4:4<n
 · rw [ah (by omega),ae,short (by omega)];exact ⟨rfl,rfl⟩
 rw [af (by omega),ab]
 refine ⟨fun st hh=>hh=h∧∃ i:Nat,st=(i:Int)∧i≤n∧(rs.take i).all AF.lf=true,fun st _=>((n:Int) - st).toNat,⟨rfl,0,rfl,aw _,rfl⟩,?_⟩
 rintro st h2 ⟨rfl,i,rfl,hi,hall⟩
 by_cases hil:i<n
 rotate_left
 · have e:i=n:=by omega
   rw [af (by omega),ab];rw [e,av (by omega)] at hall;have:AF.cx rs=true:=by
    unfold AF.cx;rw [hall,ah (by omega),ah (by omega)]
    rfl
   rw [this];exact ⟨rfl,rfl⟩
 rw [ah (show ((i:Int)<(n:Int)) by omega),ae]
 obtain ⟨x,hx⟩:∃ x,rs[i]? = some x:=⟨_,ai (by omega)⟩
 have g0:∀ {K:Int→Prop},K x.1→aO a n (i:Int) 2 fun b=>Ld h2 (b.add 0) fun v=>DI .i64 v K:=fun hK=>dp (f:=fh) (fun _=>rfl) (by decide) hr hn hx fun _ _ hc=>CI (hc 0 _ rfl) hK
 have g1:∀ {K:Int→Prop},K x.2→aO a n (i:Int) 2 fun b=>Ld h2 (b.add 1) fun v=>DI .i64 v K:=fun hK=>dp (f:=fh) (fun _=>rfl) (by decide) hr hn hx fun _ _ hc=>CI (hc 1 _ rfl) hK
 have bad:AF.lf x=false→Value.bool false=.bool (AF.cx rs)∧h2=h2:=fun hb=>by
  rw [qt hx hb];exact ⟨rfl,rfl⟩
 refine g0 ?_
 by_cases b1:x.1<0
 · rw [ah b1,ae];exact bad (by unfold AF.lf; rw [af (show ¬ 0≤x.1 by omega)]; rfl)
 rw [af b1,ab]
 refine g1 ?_
 by_cases b4:x.2<0
 · rw [ah b4,ae];exact bad (by unfold AF.lf; rw [af (show ¬ x.1≤x.2 by omega),Bool.and_false]; rfl)
 rw [af b4,ab]
 refine g0 (g1 ?_)
 by_cases b2:x.1>x.2
 · rw [ah b2,ae];exact bad (by unfold AF.lf; rw [af (show ¬ x.1≤x.2 by omega),Bool.and_false]; rfl)
 rw [af b2,ab]
 refine g1 ?_
 by_cases b3:x.2>1099511627776
 · rw [ah b3,ae];exact bad (by unfold AF.lf; rw [af (show ¬ x.2≤1099511627776 by omega),Bool.and_false])
 rw [af b3,ab]
 have hok:AF.lf x=true:=by unfold AF.lf; rw [ah (by omega),ah (by omega),ah (by omega)]; rfl
 exact ⟨⟨rfl,i+1,by rw [IntWalk.i64_in _ (by omega)]; rfl,by omega,by rw [oE hx,hall,hok]; rfl⟩,by rw [IntWalk.i64_in _ (by omega)]; show ((n:Int) - ((i:Int)+1)).toNat<((n:Int) - (i:Int)).toNat; omega⟩
end
end Go.Proofs.YtdpaiiibndnanaaGreatDoor
