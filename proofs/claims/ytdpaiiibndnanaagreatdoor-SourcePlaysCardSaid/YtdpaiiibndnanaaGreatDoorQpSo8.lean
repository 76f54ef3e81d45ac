/- A source: Read. -/
import Derived.Test.YtdpaiiibndnanaaGreatDoorQpSo7
namespace Go.Proofs.YtdpaiiibndnanaaGreatDoor
open Go.IntKind (wrap)
open Go.Proofs.Tryz (prog)
open List (mem_of_mem_drop length_drop append_assoc drop_of_length_le append_nil getElem?_eq_none length_nil zipWith zipWith_append drop_eq_getElem_cons mem_cons_self drop_sublist)
open Go Go.RowKit
set_option linter.unusedVariables false
set_option linter.unusedSimpArgs false
open AF (aU cG Gr dD e9 Rg lf cx cH dZ cZ cj fx)
namespace AF
def iM (ps:List eH):Nat:=(ps.map (·.count)).sum
theorem kV:∀ (ps:List eH) (b f:Nat),(∀ p∈ps,b≤p.base)→ps.Pairwise (fun p q=>p.base+p.count≤q.base)→(∀ p∈ps,p.base+p.count≤f)→b≤f→b+iM ps≤f
 | [],b,f,_,_,_,h=>h
 | p::ps,b,f,h1,h2,h3,h4=>by
   obtain ⟨c1,c2⟩:=List.pairwise_cons.1 h2;have hp:=h1 p (mem_cons_self ..);have:=kV ps (p.base+p.count) f c1 c2 (fun q hq=>h3 q (aD _ hq)) (h3 p (mem_cons_self ..));have e:iM (p::ps)=p.count+iM ps:=rfl;omega
theorem lD {A:FS} {dir:ByteArray} {lo hi:Nat}:∀ (ps:List eH) (out r:List (List Nat)),aU.readGo A dir lo hi ps out=.ok r→r.length≤out.length+iM ps
 | [],out,r,h=>by cases h; exact Nat.le_add_right _ _
 | p::ps,out,r,h=>by
   have e:iM (p::ps)=p.count+iM ps:=rfl;unfold aU.readGo at h;split at h
   · cases h; omega
   · split at h
     · have:=lD ps out r h;omega
     · split at h
       · cases h
       · split at h
         · cases h
         · have:=lD ps _ r h;rw [ao,length_drop,au] at this;omega
theorem aU.Fit.read_len {A:FS} {L:aU} {k:Nat} {lo hi:Int} {out:List (List Nat)} (I:L.Fit k) (h:L.read A lo hi=.ok out):out.length≤L.fin:=by
 unfold aU.read at h
 split at h
 · cases h
 · have h1:=lD _ _ _ h;have h2:=kV (L.parts.drop (L.from_ lo.toNat)) 0 L.fin (fun p hp=>aw _) (I.chain.sublist (drop_sublist _ _)) (fun p hp=>I.end_le (mem_of_mem_drop hp)) (aw _);rw [length_nil] at h1;omega
theorem dy (k:Nat) (fr:Int) (b:List (List Nat)):(cZ k fr b).length=b.length:=List.length_mapIdx
theorem jM {k:Nat} {fr:Int} {b:List (List Nat)} {j:Nat} {x:List Nat} (h:b[j]? = some x):(cZ k fr b)[j]? = some (k,fr+j,x):=by
 unfold cZ
 rw [List.getElem?_mapIdx,h]
 rfl
theorem uD (k:Nat) (fr:Int) (b:List (List Nat)):(cZ k fr b).map (fun r=>r.2.2)=b:=by
 apply List.ext_getElem?
 intro j
 rw [List.getElem?_map]
 cases h:b[j]? with
 | none=>
   rw [getElem?_eq_none (by rw [dy]; exact List.getElem?_eq_none_iff.1 h)]
   rfl
 | some x=>
   rw [jM h]
   rfl
end AF
theorem Js:prog.underlying 49=some (.slice 53):=by kernel_rfl
theorem Fg:d8 prog 49=true:=by kernel_rfl
theorem FD:gi prog 53 3 40=true:=by kernel_rfl
abbrev wD (r:AF.nM) (v:Value):List Value:=[iv (r.1:Int),iv r.2.1,v]
abbrev rS (r:AF.nM) (v:Value):aF:=qi r.2.2 v
abbrev gS (rs:List AF.nM) (ws:List Value):List Value:=(zipWith wD rs ws).flatten
def oI (a:Option Addr) (c:Nat) (rs:List AF.nM):aF:=pZ fun ws:List Value=>bP [lY (ws.length=rs.length),aQ 53 3 a rs.length c (gS rs ws),bP (zipWith rS rs ws)]
def A7 (r:Except Nat (List AF.nM)) (G:List aF) (v:Value) (h':Heap):Prop:=
 (∃ rs a c,r=.ok rs∧v=.tuple #[.slice a rs.length c,.int .i64 0]∧aG (oI a c rs::G) h')∨
 (∃ e:Nat,r=.error e∧e≠0∧v=.tuple #[.slice none 0 0,.int .i64 (e:Int)]∧aG G h')
theorem wW {b:List (List Nat)} {vs:List Value} {j:Nat} {x:List Nat} {G:List aF} {h:Heap} (H:aG (bP (zipWith qi b vs)::G) h) (hb:b[j]? = some x) (hl:vs.length=b.length):∃ a l c,vs[j]? = some (.slice a l c):=by
 have hlt:=(ak.1 hb).1
 obtain ⟨v,hv⟩:∃ v,vs[j]? = some v:=⟨_,ai (by omega)⟩
 obtain ⟨a,l,c,rfl,_⟩:=sC (pn H.open hb hv)
 exact ⟨a,l,c,hv⟩
section
variable {s fb:Nat} {ls:List aU} {A:AF.FS} {F:List aF} {h:Heap} {k:Nat}
theorem oH {a:Option Addr} {c:Nat} {rs:List AF.nM} (H:aG (oI a c rs::F) h):∃ ws:List Value,ws.length=rs.length∧aG (aQ 53 3 a rs.length c (gS rs ws)::bP (zipWith rS rs ws)::F) h:=by
 obtain ⟨ws,H1⟩:=bD.1 H
 obtain ⟨e,H2⟩:=cE.1 H1.open
 exact ⟨ws,e,H2⟩
theorem oG {a:Option Addr} {c:Nat} {rs:List AF.nM} {ws:List Value} (e:ws.length=rs.length) (H:aG (aQ 53 3 a rs.length c (gS rs ws)::bP (zipWith rS rs ws)::F) h):aG (oI a c rs::F) h:=
 bD.2 ⟨ws,aG.shut (m:=[lY (ws.length=rs.length),aQ 53 3 a rs.length c (gS rs ws),bP (zipWith rS rs ws)]) (cE.2 ⟨e,H⟩)⟩
set_option maxHeartbeats 1000000 in
theorem vX {rs:List Rg} {la:Option Addr} {n c:Nat} (hr:∀ h',aG F h'→cv h' la (rs.flatMap fh)) (hn:rs.length=n) (hm:n<1099511627776) (W:A.WF) (I:e9 k ls) (hk5:k≤5000) (H:aG (dN s fb ls::bV fb A::F) h) :
  aE prog 19 [aM s,.slice la n c] h (A7 (fx ls A rs) (dN s fb ls::bV fb A::F)):=by
 apply EJ.ap
 unfold Jj
 rw [show (some (⟨s,0,none⟩:Addr)).isNone=false from rfl,ab]
 refine (ue (fun h' H'=>hr h' H'.drop) hn hm I.1 H).mono ?_
 rintro v h2 ⟨rfl,H2⟩
 rw [aL]
 unfold fx
 by_cases hw:cH ls rs=0
 rotate_left
 · rw [aX hw,ae,an hw];exact .inr ⟨_,rfl,hw,rfl,H2⟩
 rw [am (fun hh=>hh hw),hw,show (((0:Nat):Int)!=0)=false from rfl,ab]
 obtain ⟨hlen,hok,hover⟩:=dZ hw
 have hn4:=I.1
 refine ⟨fun st hh=>∃ (i:Nat) (oa:Option Addr) (oc:Nat) (out:List AF.nM),st=(⟨oa,out.length,oc⟩,(i:Int))∧i≤n∧cj A ls rs 0 []=cj A (ls.drop i) (rs.drop i) i out∧out.length≤i*83886080000∧
   aG (oI oa oc out::dN s fb ls::bV fb A::F) hh,
  fun st _=>((n:Int) - st.2).toNat,⟨0,none,0,[],rfl,aw _,rfl,aw _,oG (ws:=[]) rfl (bR 53 3 (aG.shut (m:=[]) H2))⟩,?_⟩
 rintro st h3 ⟨i,oa,oc,out,rfl,hi,hall,hol,H3⟩
 dsimp only
 by_cases hil:i<n
 rotate_left
 · have hin:i=n:=by omega
   rw [af (by omega),ab];rw [drop_of_length_le (show ls.length≤i by omega),drop_of_length_le (show rs.length≤i by omega)] at hall;have e:cj A [] [] i out=.ok out:=rfl;rw [hall,e];exact .inl ⟨out,oa,oc,rfl,rfl,H3⟩
 rw [ah (show ((i:Int)<(n:Int)) by omega),ae]
 obtain ⟨L,hL⟩:∃ L,ls[i]? = some L:=⟨_,ai (by omega)⟩
 obtain ⟨x,hx⟩:∃ x,rs[i]? = some x:=⟨_,ai (by omega)⟩
 have hLd:ls.drop i=L::ls.drop (i+1):=by
  rw [drop_eq_getElem_cons (ak.1 hL).1];congr 1;exact (ak.1 hL).2
 have hRd:rs.drop i=x::rs.drop (i+1):=by
  rw [drop_eq_getElem_cons (ak.1 hx).1];congr 1;exact (ak.1 hx).2
 have IL:=I.2 L (aj hL)
 have hfin:=IL.small.fin
 have hxo:=hok x (aj hx)
 unfold lf at hxo
 simp only [ay,decide_eq_true_eq] at hxo
 refine dp (f:=fh) (fun _=>rfl) (by decide) (hr h3 (H3.rest 3)) hn hx fun _ _ hc=>⟨_,hc 0 _ rfl,_,hc 1 _ rfl,x.1,x.2,rfl,?_⟩
 refine aW H3 fun b0 h4 H4=>?_
 refine ct (c':=#[iv x.1,iv 0]) H4 (show (0:Nat)<2 by decide) rfl fun h5 H5=>?_
 refine ct (c':=#[iv x.1,iv x.2]) H5 (show (1:Nat)<2 by decide) rfl fun h6 H6=>?_
 rw [aK]
 refine ⟨by omega,by omega,?_⟩
 rw [aP,Int.toNat_natCast,Nat.mul_one]
 obtain ⟨qs,hq,H7⟩:=gz (H6.mv 2)
 obtain ⟨b,hb⟩:∃ a,qs[i]? = some a:=⟨_,ai (by omega)⟩
 refine dX (i:=i) (v:=aM b) H7 (by rw [ou (by omega),mH hb]) ?_
 show DP (.pointer (some ⟨b,0,none⟩)) _
 rw [bo]
 refine bM (x:=x.1) (H7.mv 2) rfl ?_
 refine bM (x:=x.2) (H7.mv 2) rfl ?_
 obtain ⟨R,H8,back⟩:=mj hb hL (H7.mv 1)
 have H9:=H8.ordT 6 [0,5,1,2,3,4]
 have shut:∀ (G:List aF) (h':Heap),aG (cy b fb L::bV fb A::R::pt s (.cells (lz qs ls.length) 93 (0,0))::G) h'→aG (dN s fb ls::bV fb A::G) h':=fun G h' H'=>by
  have H2:=back L _ _ (H'.ordT 4 [0,2,3,1]);have es:ls.set i L=ls:=by
   obtain ⟨hlt,rfl⟩:=ak.1 hL;exact List.set_getElem_self hlt
  rw [es] at H2;exact jn hq (H2.ordT 2 [1,0])
 refine (zL (lo:=x.1) (hi:=x.2) W IL.small IL.up H9).mono ?_
 rintro v h7 (⟨bs,xa,xc,hrd,rfl,H10⟩ | ⟨e,hrd,e0,rfl,H10⟩)
 rotate_left
 · refine ⟨none,0,0,_,rfl,?_⟩;rw [aX e0,ae,hall,hLd,hRd];have er:cj A (L::ls.drop (i+1)) (x::rs.drop (i+1)) i out=.error e:=by
    unfold cj;rw [hrd]
   rw [er];exact .inr ⟨e,rfl,e0,rfl,(shut _ _ H10).ordT 4 [0,1]⟩
 refine ⟨xa,bs.length,xc,0,rfl,?_⟩
 rw [show ((0:Int)!=0)=false from rfl,ab]
 have hbl:=IL.read_len hrd
 obtain ⟨vs,hvl,H11⟩:=im H10
 have H12:=H11.shut1
 obtain ⟨ws,hwl,H13⟩:=oH (H12.mv 7)
 have hlim:out.length+bs.length≤419430400000:=by
  have:i*83886080000≤4*83886080000:=Nat.mul_le_mul_right _ (by omega);omega
 refine ⟨fun st hh=>∃ (j:Nat) (oa:Option Addr) (oc:Nat),st=(⟨oa,out.length+j,oc⟩,(j:Int))∧j≤bs.length∧aG (aQ 53 3 oa (out.length+j) oc (gS out ws++gS ((cZ i x.1 bs).take j) (vs.take j))::bP (zipWith rS out ws)::
   aQ 30 1 xa bs.length xc vs::bP (zipWith qi bs vs)::cy b fb L::bV fb A::R::pt s (.cells (lz qs ls.length) 93 (0,0))::pt b0 (.cells #[iv x.1,iv x.2] 86 (0,0))::F) hh,
  fun st _=>((bs.length:Int) - st.2).toNat,⟨0,oa,oc,rfl,aw _,by rw [show gS ((cZ i x.1 bs).take 0) (vs.take 0)=[] from rfl,append_nil]; exact H13⟩,?_⟩
 rintro st h8 ⟨j,oa2,oc2,rfl,hj,H14⟩
 dsimp only
 by_cases hjl:j<bs.length
 · rw [ah (show ((j:Int)<(bs.length:Int)) by omega),ae];refine bM (x:=x.1) (H14.mv 8) rfl ?_;obtain ⟨y,hy⟩:∃ y,bs[j]? = some y:=⟨_,ai hjl⟩
   obtain ⟨ya,yl,yc,hyv⟩:=wW (H14.mv 3) hy hvl;refine bj (v:=.slice ya yl yc) (aH (H14.mv 2)) hvl hyv fun p hp hcell=>⟨_,hcell,?_⟩
   show aZ (.slice ya yl yc) _;rw [aI];refine aW H14 fun b1 h9 H15=>?_;refine ⟨rfl,?_⟩;have hrp:cv h9 (some ⟨b1,0,none⟩) [iv (i:Int),iv (x.1+j),.slice ya yl yc]:=ge (cs:=#[.int .i64 (i:Int),.int .i64 (wrap .i64 (x.1+j)),.slice ya yl yc]) H15 (by rw [IntWalk.i64_in _ (by omega)]; rfl);refine gP Js Fg FD (H15.mv 1) (n:=1) (bJ hrp rfl) (by intro u hu; simp at hu; rcases hu with rfl | rfl | rfl <;> rfl) (by omega) fun a' c' h10 _ H16=>?_;rw [aI];have e1:gS ((cZ i x.1 bs).take (j+1)) (vs.take (j+1))=gS ((cZ i x.1 bs).take j) (vs.take j)++[iv (i:Int),iv (x.1+j),.slice ya yl yc]:=by
    unfold gS;rw [az,az,AF.jM hy,hyv];rw [zipWith_append (by rw [au,au,AF.dy]; omega),List.flatten_append]
    rfl
   refine ⟨⟨j+1,a',c',by rw [IntWalk.i64_in _ (by omega)]; rfl,by omega,?_⟩,by rw [IntWalk.i64_in _ (by omega)]; show ((bs.length:Int) - ((j:Int)+1)).toNat<((bs.length:Int) - (j:Int)).toNat; omega⟩;rw [e1,← append_assoc];exact H16.ordT 2 [0]
 · rw [af (by omega),ab];have hje:j=bs.length:=by omega
   rw [hje,av (by rw [AF.dy]; omega),av (by omega)] at H14;refine ⟨⟨i+1,oa2,oc2,out++cZ i x.1 bs,?_,by omega,?_,?_,?_⟩,by rw [IntWalk.i64_in _ (by omega)]; show ((n:Int) - ((i:Int)+1)).toNat<((n:Int) - (i:Int)).toNat; omega⟩
   · rw [IntWalk.i64_in _ (by omega),ao,AF.dy,hje]
     rfl
   · rw [hall,hLd,hRd]
     conv=>lhs; unfold cj
     rw [hrd]
   · rw [ao,AF.dy];have:(i+1)*83886080000=i*83886080000+83886080000:=Nat.succ_mul _ _;omega
   · have eV:gS out ws++gS (cZ i x.1 bs) vs=gS (out++cZ i x.1 bs) (ws++vs):=by
      unfold gS;rw [zipWith_append hwl.symm,List.flatten_append]
     have eE:zipWith rS (out++cZ i x.1 bs) (ws++vs)=zipWith rS out ws++zipWith qi bs vs:=by
      rw [zipWith_append hwl.symm];congr 1
      conv=>rhs; rw [← AF.uD i x.1 bs]
      rw [List.zipWith_map_left]
     rw [eV] at H14;have H15:=(H14.ordT 9 [1,3,0,4,5,6,7])
     have H16:aG (bP (zipWith rS (out++cZ i x.1 bs) (ws++vs))::aQ 53 3 oa2 (out.length+bs.length) oc2 (gS (out++cZ i x.1 bs) (ws++vs))::cy b fb L::bV fb A::R::pt s (.cells (lz qs ls.length) 93 (0,0))::F) h8:=by
      rw [eE];refine aG.shut ?_;rw [append_assoc];exact H15.open1.open
     have H18:=shut _ _ (H16.ordT 6 [2,3,4,5,0,1]);have H19:=H18.ordT 4 [3,2,0,1];rw [show out.length+bs.length=(out++cZ i x.1 bs).length by rw [ao,AF.dy]] at H19;exact oG (by rw [ao,ao,AF.dy]; omega) H19
end
end Go.Proofs.YtdpaiiibndnanaaGreatDoor
