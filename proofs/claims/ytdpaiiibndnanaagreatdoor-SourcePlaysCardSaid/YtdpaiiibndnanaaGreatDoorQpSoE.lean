/- The document's source: Plan,Read; Start,and what the law compares. -/
import Derived.Test.YtdpaiiibndnanaaGreatDoorQpSoD
namespace Go.Proofs.YtdpaiiibndnanaaGreatDoor
open Go.Builtin (append_)
open Go.Proofs.Tryz (prog)
open List (append_assoc map_append drop_of_length_le append_nil getElem?_eq_none flatMap_cons flatMap_append getElem?_zipWith zipWith_cons_cons drop_eq_getElem_cons take_zero length_zipWith length_replicate)
open Go Go.RowKit
set_option linter.unusedVariables false
set_option linter.unusedSimpArgs false
open Dl (LP bC cnt bF j4)
open AF (aU cG Gr dD e9 Rg lf cx cH dd j5 dZ cZ cj fx)
def FV (r:Except Nat (List Rg)) (G:List aF) (v:Value) (h':Heap):Prop:=
 (∃ rs a c,r=.ok rs∧v=.tuple #[.slice a rs.length c,.int .i64 0]∧aG (aQ 86 2 a rs.length c (rs.flatMap fh)::G) h')∨
 (∃ e:Nat,r=.error e∧e≠0∧v=.tuple #[.slice none 0 0,.int .i64 (e:Int)]∧aG G h')
theorem Jr:prog.underlying 76=some (.slice 125):=by kernel_rfl
theorem Ff:d8 prog 76=true:=by kernel_rfl
theorem DE:gi prog 125 3 32=true:=by kernel_rfl
abbrev lW (r:AF.nM):List Value:=[iv (r.1:Int),iv r.2.1,sv r.2.2]
def FU (r:Except Nat (List AF.nM)) (G:List aF) (v:Value) (h':Heap):Prop:=
 (∃ rs a c,r=.ok rs∧v=.tuple #[.slice a rs.length c,.int .i64 0]∧aG (aQ 125 3 a rs.length c (rs.flatMap lW)::G) h')∨
 (∃ e:Nat,r=.error e∧e≠0∧v=.tuple #[.slice none 0 0,.int .i64 (e:Int)]∧aG G h')
theorem mG {α:Type} {E:List α} {i:Nat} {e:α} (h:E[i]? = some e):E.take (i+1)=E.take i++[e]:=by rw [az,h]; rfl
section
variable {t m s fb:Nat} {ls:List aU} {A:AF.FS} {F:List aF} {h:Heap} {k:Nat}
theorem DA {a:Option Addr} {c b0:Nat} {D:List Int} {x:Int} {K:Value→Heap→Prop} (hb:D.length<1000000000) (H:aG (pt b0 (.cells #[iv x] 2 (0,0))::aQ 2 1 a D.length c (D.map iv)::F) h)
  (hK:∀ a' c' h',aG (aQ 2 1 a' (D++[x]).length c' ((D++[x]).map iv)::F) h'→K (.slice a' (D++[x]).length c') h') :
  bB prog (append_ #[22,22] 22 #[.slice a D.length c,.slice (some (Addr.mk b0 0 none)) 1 1]) h K:=by
 refine gr Ip CT FE (H.mv 1) (n:=1) (ys:=[iv x]) (bJ (ge H rfl) rfl) (by intro u hu; simp at hu; subst hu; rfl) (by omega) fun a' c' h2 _ H2=>?_
 have e1:D.map iv++[iv x]=(D++[x]).map iv:=by rw [map_append]; rfl
 have e2:D.length+1=(D++[x]).length:=by rw [ao]; rfl
 rw [e1,e2] at H2
 rw [e2]
 exact hK a' c' h2 (H2.ordT 2 [0])
theorem CU {a:Option Addr} {c b0:Nat} {D:List Rg} {x:Rg} {K:Value→Heap→Prop} (hb:D.length<1000000000) (H:aG (pt b0 (.cells #[iv x.1,iv x.2] 86 (0,0))::aQ 86 2 a D.length c (D.flatMap fh)::F) h)
  (hK:∀ a' c' h',aG (aQ 86 2 a' (D++[x]).length c' ((D++[x]).flatMap fh)::F) h'→K (.slice a' (D++[x]).length c') h') :
  bB prog (append_ #[42,42] 42 #[.slice a D.length c,.slice (some (Addr.mk b0 0 none)) 1 1]) h K:=by
 refine gP Jt Fh FB (H.mv 1) (n:=1) (ys:=fh x) (bJ (ge H rfl) rfl) (by intro u hu; simp [fh] at hu; rcases hu with rfl | rfl <;> rfl) (by omega) fun a' c' h2 _ H2=>?_
 have e1:D.flatMap fh++fh x=(D++[x]).flatMap fh:=by rw [flatMap_append]; simp
 have e2:D.length+1=(D++[x]).length:=by rw [ao]; rfl
 rw [e1,e2] at H2
 rw [e2]
 exact hK a' c' h2 (H2.ordT 2 [0])
theorem Dp {a:Option Addr} {c b0:Nat} {D:List AF.nM} {x:AF.nM} {K:Value→Heap→Prop} (hb:D.length<4000000000000) (H:aG (pt b0 (.cells #[iv (x.1:Int),iv x.2.1,sv x.2.2] 125 (0,0))::aQ 125 3 a D.length c (D.flatMap lW)::F) h)
  (hK:∀ a' c' h',aG (aQ 125 3 a' (D++[x]).length c' ((D++[x]).flatMap lW)::F) h'→K (.slice a' (D++[x]).length c') h') :
  bB prog (append_ #[76,76] 76 #[.slice a D.length c,.slice (some (Addr.mk b0 0 none)) 1 1]) h K:=by
 refine gP Jr Ff DE (H.mv 1) (n:=1) (ys:=lW x) (bJ (ge H rfl) rfl) (by intro u hu; simp [lW,sv] at hu; rcases hu with rfl | rfl | rfl <;> rfl) (by omega) fun a' c' h2 _ H2=>?_
 have e1:D.flatMap lW++lW x=(D++[x]).flatMap lW:=by rw [flatMap_append]; simp
 have e2:D.length+1=(D++[x]).length:=by rw [ao]; rfl
 rw [e1,e2] at H2
 rw [e2]
 exact hK a' c' h2 (H2.ordT 2 [0])
set_option maxHeartbeats 1000000 in
theorem uk {was:List Rg} {a:Option Addr} {n c:Nat} {most:Int} (hr:∀ h',aG F h'→cv h' a (was.flatMap fh)) (hn:was.length=n) (hm:n<1099511627776) (I:e9 k ls) (H:aG (d9 t m ls::F) h) :
  aE prog 27 [aM t,.slice a n c,.int .i64 most] h fun v h'=>∃ r,j5 ls was most r∧FV r (d9 t m ls::F) v h':=by
 apply ED.ap
 unfold Jd
 by_cases m1:most<1
 · rw [ah m1,ae];exact ⟨.error 2,.inl ⟨rfl,.inl m1⟩,.inr ⟨2,rfl,by decide,rfl,H⟩⟩
 rw [af m1,ab]
 by_cases m2:most>1024
 · rw [ah m2,ae];exact ⟨.error 2,.inl ⟨rfl,.inr m2⟩,.inr ⟨2,rfl,by decide,rfl,H⟩⟩
 rw [af m2,ab]
 refine (ud (hr h H.drop) hn hm I.1 H).mono ?_
 rintro v h2 ⟨rfl,rfl⟩
 rw [aL]
 by_cases hw:cH ls was=0
 rotate_left
 · rw [aX hw,ae];exact ⟨.error (cH ls was),.inr (.inl ⟨by omega,hw,rfl⟩),.inr ⟨_,rfl,hw,rfl,H⟩⟩
 rw [hw,show (((0:Nat):Int)!=0)=false from rfl,ab]
 obtain ⟨hlen,hok,hover⟩:=dZ hw
 have hn4:=I.1
 simp only [aK]
 have hEl:(dd ls was).length=n:=by unfold dd; rw [length_zipWith]; omega
 have bnd:∀ (i:Nat) (x:Rg) (L:aU),was[i]? = some x→ls[i]? = some L→0≤x.2∧x.2≤(L.dur:Int)∧x.2≤1099511627776:=fun i x L hx hL=>by
  have h1:=hok x (aj hx);unfold lf at h1;simp only [ay,decide_eq_true_eq] at h1;exact ⟨by omega,tg hover hx hL,h1.2⟩
 have big:∀ (i:Nat) (L:aU),ls[i]? = some L→(L.dur:Int)≤4611686018427387904:=fun i L hL=>by
  have h1:=I.2 L (aj hL);have h2:=h1.safe;have h3:=h1.small.fin;have h4:=h1.small.few;omega
 refine ⟨fun st hh=>∃ (i:Nat) (ea:Option Addr) (ec:Nat),st=(⟨ea,((dd ls was).take i).length,ec⟩,(i:Int))∧i≤n∧aG (aQ 2 1 ea ((dd ls was).take i).length ec (((dd ls was).take i).map iv)::d9 t m ls::F) hh,
  fun st _=>((n:Int) - st.2).toNat,⟨0,none,0,rfl,aw _,bR 2 1 H⟩,?_⟩
 rintro st h4 ⟨i,ea,ec,rfl,hi,H4⟩
 dsimp only
 have htl:((dd ls was).take i).length=i:=by rw [au]; omega
 by_cases hil:i<n
 · rw [ah (show ((i:Int)<(n:Int)) by omega),ae];obtain ⟨L,hL⟩:∃ L,ls[i]? = some L:=⟨_,ai (by omega)⟩
   obtain ⟨x,hx⟩:∃ x,was[i]? = some x:=⟨_,ai (by omega)⟩
   obtain ⟨b1,b2,b3⟩:=bnd i x L hx hL;have hdur:=big i L hL;have hE:(dd ls was)[i]? = some ((L.dur:Int) - x.2):=by unfold dd; rw [getElem?_zipWith,hx,hL]
   obtain ⟨qs,sa,sc,hq,H5⟩:=gy (H4.mv 1);refine bH (a:=sa) (l:=ls.length) (m:=sc) H5 rfl ?_;refine sj hq hL H5 ?_;refine dp (f:=fh) (fun _=>rfl) (by decide) (hr h4 (H4.rest 2)) hn hx fun _ _ hc=>CI (hc 1 _ rfl) ?_;rw [IntWalk.i64_in ((L.dur:Int) - x.2) (by omega)];refine aW H4 fun b0 h6 H6=>?_;refine ⟨rfl,?_⟩;refine DA (D:=(dd ls was).take i) (x:=(L.dur:Int) - x.2) (by omega) H6 fun a' c' h7 H7=>?_;rw [aI];rw [← mG hE] at H7 ⊢;exact ⟨⟨i+1,a',c',by rw [IntWalk.i64_in _ (by omega)]; rfl,by omega,H7⟩,by rw [IntWalk.i64_in _ (by omega)]; show ((n:Int) - ((i:Int)+1)).toNat<((n:Int) - (i:Int)).toNat; omega⟩
 rw [af (by omega),ab]
 have hin:i=n:=by omega
 rw [hin,av (by omega)] at H4 ⊢
 rw [hEl] at H4 ⊢
 refine (Am (hs:=dd ls was) (n:=n) (most:=most) (F:=aQ 2 1 ea n ec ((dd ls was).map iv)::d9 t m ls::F) (fun h' H'=>aH H') hEl (by omega) ?_ (by omega) H4).mono ?_
 · intro z hz;unfold dd at hz;obtain ⟨j,hj⟩:=List.mem_iff_getElem?.1 hz;rw [getElem?_zipWith] at hj;have hlt:j<was.length:=by
    refine Decidable.byContradiction fun hh=>?_;rw [getElem?_eq_none (by omega)] at hj;cases hj
   obtain ⟨x,hx⟩:∃ x,was[j]? = some x:=⟨_,ai hlt⟩
   obtain ⟨L,hL⟩:∃ L,ls[j]? = some L:=⟨_,ai (by omega)⟩
   rw [hx,hL] at hj;have e:z=(L.dur:Int) - x.2:=(Option.some.inj hj).symm;obtain ⟨b1,b2,b3⟩:=bnd j x L hx hL;have:=big j L hL;omega
 rintro v h7 ⟨da,d,rfl,hd,hfst,hfit,H7⟩
 rw [aI]
 have hdl:d.length=n:=by
  have:=congrArg List.length hfst;rw [aq] at this;omega
 have hPl:(AF.planOf was d).length=n:=by unfold AF.planOf; rw [length_zipWith]; omega
 have H7b:=H7.ordT 2 [0]
 refine ⟨fun st hh=>∃ (i:Nat) (oa:Option Addr) (oc:Nat),st=(⟨oa,((AF.planOf was d).take i).length,oc⟩,(i:Int))∧i≤n∧aG (aQ 86 2 oa ((AF.planOf was d).take i).length oc (((AF.planOf was d).take i).flatMap fh)::eT 2 da n d::d9 t m ls::F) hh,fun st _=>((n:Int) - st.2).toNat,
  ⟨0,none,0,rfl,aw _,bR 86 2 H7b⟩,?_⟩
 rintro st h8 ⟨i,oa,oc,rfl,hi2,H8⟩
 dsimp only
 have htl2:((AF.planOf was d).take i).length=i:=by rw [au]; omega
 by_cases hil2:i<n
 rotate_left
 · rw [af (by omega),ab];have hin2:i=n:=by omega
   rw [hin2,av (by omega)] at H8 ⊢;exact ⟨.ok (AF.planOf was d),.inr (.inr ⟨by omega,hw,d,hd,hfst,hfit,rfl⟩),.inl ⟨AF.planOf was d,oa,oc,rfl,rfl,H8.ordT 2 [0]⟩⟩
 rw [ah (show ((i:Int)<(n:Int)) by omega),ae]
 obtain ⟨L,hL⟩:∃ L,ls[i]? = some L:=⟨_,ai (by omega)⟩
 obtain ⟨x,hx⟩:∃ x,was[i]? = some x:=⟨_,ai (by omega)⟩
 obtain ⟨q,hqd⟩:∃ q,d[i]? = some q:=⟨_,ai (by omega)⟩
 obtain ⟨b1,b2,b3⟩:=bnd i x L hx hL
 have hq1:q.1=(L.dur:Int) - x.2:=by
  have e1:(d.map (·.1))[i]? = some q.1:=by rw [List.getElem?_map,hqd]; rfl
  rw [hfst] at e1;unfold dd at e1;rw [getElem?_zipWith,hx,hL] at e1;exact (Option.some.inj e1).symm
 have hqf:=hfit q (aj hqd)
 have hbig:=big i L hL
 have hP:(AF.planOf was d)[i]? = some (x.2,x.2+q.2):=by unfold AF.planOf; rw [getElem?_zipWith,hx,hqd]
 have hdv:(d.map fun p=>iv p.2)[i]? = some (iv q.2):=by rw [List.getElem?_map,hqd]; rfl
 refine dp (f:=fh) (fun _=>rfl) (by decide) (hr h8 (H8.rest 3)) hn hx fun _ _ hc=>CI (hc 1 _ rfl) ?_
 refine dp (f:=fh) (fun _=>rfl) (by decide) (hr h8 (H8.rest 3)) hn hx fun _ _ hc=>CI (hc 1 _ rfl) ?_
 refine cN (s:=q.2) (aH (H8.mv 1)) (by rw [aq]; omega) hdv fun b hb=>CI hb ?_
 rw [IntWalk.i64_in (x.2+q.2) (by omega)]
 refine aW H8 fun b0 h9 H9=>?_
 refine ⟨rfl,?_⟩
 refine CU (D:=(AF.planOf was d).take i) (x:=(x.2,x.2+q.2)) (by omega) H9 fun a' c' h10 H10=>?_
 rw [aI]
 rw [← mG hP] at H10 ⊢
 exact ⟨⟨i+1,a',c',by rw [IntWalk.i64_in _ (by omega)]; rfl,by omega,H10⟩,by rw [IntWalk.i64_in _ (by omega)]; show ((n:Int) - ((i:Int)+1)).toNat<((n:Int) - (i:Int)).toNat; omega⟩
set_option maxHeartbeats 1000000 in
theorem mC {rs:List Rg} {la:Option Addr} {n c:Nat} (hr:∀ h',aG F h'→cv h' la (rs.flatMap fh)) (hn:rs.length=n) (hm:n<1099511627776) (W:A.WF) (I:e9 k ls) (hk5:k≤5000) (H:aG (d9 t m ls::bd m A::F) h) :
  aE prog 29 [aM t,.slice la n c] h (FU (fx ls A rs) (d9 t m ls::bd m A::F)):=by
 apply EB.ap
 unfold Jb
 refine (ud (hr h (H.rest 2)) hn hm I.1 H).mono ?_
 rintro v h2 ⟨rfl,rfl⟩
 rw [aL]
 unfold fx
 by_cases hw:cH ls rs=0
 rotate_left
 · rw [aX hw,ae,an hw];exact .inr ⟨_,rfl,hw,rfl,H⟩
 rw [am (fun hh=>hh hw),hw,show (((0:Nat):Int)!=0)=false from rfl,ab]
 obtain ⟨hlen,hok,hover⟩:=dZ hw
 have hn4:=I.1
 simp only [aK]
 refine ⟨fun st hh=>∃ (i:Nat) (oa:Option Addr) (oc:Nat) (out:List AF.nM),st=(⟨oa,out.length,oc⟩,(i:Int))∧i≤n∧cj A ls rs 0 []=cj A (ls.drop i) (rs.drop i) i out∧out.length≤i*83886080000∧
   aG (aQ 125 3 oa out.length oc (out.flatMap lW)::d9 t m ls::bd m A::F) hh,
  fun st _=>((n:Int) - st.2).toNat,⟨0,none,0,[],rfl,aw _,rfl,aw _,bR 125 3 H⟩,?_⟩
 rintro st h3 ⟨i,oa,oc,out,rfl,hi,hall,hol,H3⟩
 dsimp only
 by_cases hil:i<n
 rotate_left
 · have hin:i=n:=by omega
   rw [af (by omega),ab];rw [drop_of_length_le (show ls.length≤i by omega),drop_of_length_le (show rs.length≤i by omega)] at hall;have e:cj A [] [] i out=.ok out:=rfl;rw [hall,e];exact .inl ⟨out,oa,oc,rfl,rfl,H3⟩
 rw [ah (show ((i:Int)<(n:Int)) by omega),ae]
 obtain ⟨L,hL⟩:∃ L,ls[i]? = some L:=⟨_,ai (by omega)⟩
 obtain ⟨x,hx⟩:∃ x,rs[i]? = some x:=⟨_,ai (by omega)⟩
 have hLd:ls.drop i=L::ls.drop (i+1):=by
  rw [drop_eq_getElem_cons (ak.1 hL).1];congr 1;exact (ak.1 hL).2
 have hRd:rs.drop i=x::rs.drop (i+1):=by
  rw [drop_eq_getElem_cons (ak.1 hx).1];congr 1;exact (ak.1 hx).2
 have IL:=I.2 L (aj hL)
 have hfin:=IL.small.fin
 have hxo:=hok x (aj hx)
 unfold lf at hxo
 simp only [ay,decide_eq_true_eq] at hxo
 obtain ⟨qs,sa,sc,hq,H4⟩:=gy (H3.mv 1)
 refine bH (a:=sa) (l:=ls.length) (m:=sc) H4 rfl ?_
 obtain ⟨q,hqi⟩:∃ q,qs[i]? = some q:=⟨_,ai (by omega)⟩
 refine bj (v:=aM q) (aH (H4.mv 1)) (by rw [aq]; exact hq) (by rw [List.getElem?_map,hqi]; rfl) fun b hb hc=>⟨_,hc,?_⟩
 show DP (.pointer (some ⟨q,0,none⟩)) _
 rw [bo]
 refine dp (f:=fh) (fun _=>rfl) (by decide) (hr h3 (H3.rest 3)) hn hx fun _ _ hc=>CI (hc 0 _ rfl) ?_
 refine dp (f:=fh) (fun _=>rfl) (by decide) (hr h3 (H3.rest 3)) hn hx fun _ _ hc=>CI (hc 1 _ rfl) ?_
 obtain ⟨R,H8,back⟩:=kK hqi hL (H4.mv 2)
 have H9:=H8.ordT 6 [0,5,1,2,3,4]
 have shut:∀ (G:List aF) (h':Heap),aG (eI q m L::bd m A::R::pt t (.cells #[.slice sa ls.length sc] 112 (0,0))::aQ 113 1 sa ls.length sc (qs.map aM)::G) h'→aG (d9 t m ls::bd m A::G) h':=fun G h' H'=>by
  have H2:=back L _ _ (H'.ordT 5 [0,2,3,4,1]);have es:ls.set i L=ls:=by
   obtain ⟨hlt,rfl⟩:=ak.1 hL;exact List.set_getElem_self hlt
  rw [es] at H2;exact jl hq (H2.ordT 3 [1,2,0])
 refine (zI (lo:=x.1) (hi:=x.2) W IL H9).mono ?_
 rintro v h7 (⟨bs,xa,xc,hrd,rfl,H10⟩ | ⟨e,hrd,e0,rfl,H10⟩)
 rotate_left
 · refine ⟨none,0,0,_,rfl,?_⟩;rw [aX e0,ae,hall,hLd,hRd];have er:cj A (L::ls.drop (i+1)) (x::rs.drop (i+1)) i out=.error e:=by
    unfold cj;rw [hrd]
   rw [er];exact .inr ⟨e,rfl,e0,rfl,(shut _ _ H10).ordT 3 [0,1]⟩
 refine ⟨xa,bs.length,xc,0,rfl,?_⟩
 rw [show ((0:Int)!=0)=false from rfl,ab]
 have hbl:=IL.read_len hrd
 have hlim:out.length+bs.length≤419430400000:=by
  have:i*83886080000≤4*83886080000:=Nat.mul_le_mul_right _ (by omega);omega
 have H11:=(shut _ _ (H10.ordT 7 [1,2,3,4,5,6,0])).ordT 4 [2,3,0,1]
 refine ⟨fun st hh=>∃ (j:Nat) (oa:Option Addr) (oc:Nat),st=(⟨oa,(out++(cZ i x.1 bs).take j).length,oc⟩,(j:Int))∧j≤bs.length∧aG (aQ 125 3 oa (out++(cZ i x.1 bs).take j).length oc ((out++(cZ i x.1 bs).take j).flatMap lW)::
   aQ 9 1 xa bs.length xc (bs.map sv)::d9 t m ls::bd m A::F) hh,
  fun st _=>((bs.length:Int) - st.2).toNat,⟨0,oa,oc,by simp,aw _,by rw [take_zero,append_nil]; exact H11⟩,?_⟩
 rintro st h8 ⟨j,oa2,oc2,rfl,hj,H14⟩
 dsimp only
 by_cases hjl:j<bs.length
 · rw [ah (show ((j:Int)<(bs.length:Int)) by omega),ae];refine dp (f:=fh) (fun _=>rfl) (by decide) (hr h8 (H14.rest 4)) hn hx fun _ _ hc=>CI (hc 0 _ rfl) ?_;obtain ⟨y,hy⟩:∃ y,bs[j]? = some y:=⟨_,ai hjl⟩
   refine bj (v:=sv y) (aH (H14.mv 1)) (aq _) (by rw [List.getElem?_map,hy]; rfl) fun p hp hcell=>⟨_,hcell,dW y,rfl,?_⟩
   rw [IntWalk.i64_in (x.1+(j:Int)) (by omega)];refine aW H14 fun b1 h9 H15=>?_;refine ⟨rfl,?_⟩;refine Dp (D:=out++(cZ i x.1 bs).take j) (x:=(i,x.1+(j:Int),y)) (by rw [ao,au]; omega) H15 fun a' c' h10 H16=>?_;rw [aI];rw [append_assoc,← mG (AF.jM hy)] at H16 ⊢;exact ⟨⟨j+1,a',c',by rw [IntWalk.i64_in _ (by omega)]; rfl,by omega,H16⟩,by rw [IntWalk.i64_in _ (by omega)]; show ((bs.length:Int) - ((j:Int)+1)).toNat<((bs.length:Int) - (j:Int)).toNat; omega⟩
 · rw [af (by omega),ab];have hje:j=bs.length:=by omega
   rw [hje,av (by rw [AF.dy]; omega)] at H14 ⊢;refine ⟨⟨i+1,oa2,oc2,out++cZ i x.1 bs,?_,by omega,?_,?_,H14.ordT 2 [0]⟩,by rw [IntWalk.i64_in _ (by omega)]; show ((n:Int) - ((i:Int)+1)).toNat<((n:Int) - (i:Int)).toNat; omega⟩
   · rw [IntWalk.i64_in _ (by omega)]
     rfl
   · rw [hall,hLd,hRd]
     conv=>lhs; unfold cj
     rw [hrd]
   · rw [ao,AF.dy];have:(i+1)*83886080000=i*83886080000+83886080000:=Nat.succ_mul _ _;omega
theorem sZ:∀ (rs:List AF.nM) (ws:List Value),gS rs ws=(rs.zip ws).flatMap fun p=>wD p.1 p.2
 | [],ws=>rfl
 | r::rs,[]=>rfl
 | r::rs,w::ws=>by
   have:=sZ rs ws;unfold gS at this ⊢;rw [zipWith_cons_cons,List.flatten_cons,this,List.zip_cons_cons,flatMap_cons]
theorem ui {rs:List AF.nM} {a b:Option Addr} {n c d:Nat} (H:aG (oI a c rs::F) h) (H2:cv h b (rs.flatMap lW)) (hn:rs.length=n) (h8:∀ r∈rs,B8 r.2.2) (hm:n<1099511627776) :
  aE prog 30 [.slice a n c,.slice b n d] h fun v h'=>v=.bool true∧h'=h:=by
 obtain ⟨ws,hwl,H1⟩:=oH H
 apply zR.ap
 unfold Ig
 rw [show (((n:Nat):Int)!=(n:Int))=false from by simp,ab]
 refine ⟨fun st hh=>hh=h∧∃ i:Nat,st=(i:Int)∧i≤n,fun st _=>((n:Int) - st).toNat,⟨rfl,0,rfl,aw _⟩,?_⟩
 rintro st h3 ⟨rfl,i,rfl,hi⟩
 by_cases hlt:i<n
 rotate_left
 · rw [af (by omega),ab];exact ⟨rfl,by trivial⟩
 rw [ah (show ((i:Int)<(n:Int)) by omega),ae]
 obtain ⟨x,hx⟩:∃ x,rs[i]? = some x:=⟨_,ai (by omega)⟩
 obtain ⟨w,hw⟩:∃ w,ws[i]? = some w:=⟨_,ai (by omega)⟩
 have hz:(rs.zip ws)[i]? = some (x,w):=by rw [List.zip,getElem?_zipWith,hx,hw]
 have hzl:(rs.zip ws).length=n:=by rw [List.length_zip]; omega
 have r1:cv h3 a ((rs.zip ws).flatMap fun p=>wD p.1 p.2):=by rw [← sZ]; exact aH H1
 obtain ⟨wa,wl,wc,rfl,hwr,hwn⟩:=sC (pn (E:=rS) (H1.mv 1).open hx hw)
 have hx8:=h8 x (aj hx)
 refine dp (f:=fun p:AF.nM×Value=>wD p.1 p.2) (sz:=3) (fun _=>rfl) (by decide) r1 hzl hz fun _ _ hc=>CI (hc 0 _ rfl) ?_
 refine dp (f:=lW) (sz:=3) (fun _=>rfl) (by decide) H2 hn hx fun _ _ hc=>CI (hc 0 _ rfl) ?_
 rw [show (((x.1:Nat):Int)!=(x.1:Int))=false from by simp,ab]
 refine dp (f:=fun p:AF.nM×Value=>wD p.1 p.2) (sz:=3) (fun _=>rfl) (by decide) r1 hzl hz fun _ _ hc=>CI (hc 1 _ rfl) ?_
 refine dp (f:=lW) (sz:=3) (fun _=>rfl) (by decide) H2 hn hx fun _ _ hc=>CI (hc 1 _ rfl) ?_
 rw [show ((x.2.1:Int)!=(x.2.1:Int))=false from by simp,ab]
 refine dp (f:=fun p:AF.nM×Value=>wD p.1 p.2) (sz:=3) (fun _=>rfl) (by decide) r1 hzl hz fun _ _ hc=>⟨_,hc 2 _ rfl,?_⟩
 show aZ (.slice wa wl wc) _
 rw [aI]
 refine ⟨dW x.2.2,fT hwr hwn hx8,?_⟩
 refine dp (f:=lW) (sz:=3) (fun _=>rfl) (by decide) H2 hn hx fun _ _ hc=>⟨_,hc 2 _ rfl,dW x.2.2,rfl,?_⟩
 dsimp only
 rw [gg,ah rfl]
 simp only [aB,ab]
 rw [aN (by omega)]
 exact ⟨⟨by trivial,i+1,rfl,by omega⟩,by show ((n:Int) - ((i+1:Nat):Int)).toNat<((n:Int) - (i:Int)).toNat; omega⟩
theorem uj:aE prog 30 [.slice none 0 0,.slice none 0 0] h fun v h'=>v=.bool true∧h'=h:=by
 apply zR.ap
 unfold Ig
 rw [show (((0:Nat):Int)!=((0:Nat):Int))=false from rfl,ab]
 refine ⟨fun st hh=>hh=h∧st=0,fun st _=>0,⟨rfl,rfl⟩,?_⟩
 rintro st h3 ⟨rfl,rfl⟩
 rw [show decide ((0:Int)<((0:Nat):Int))=false from rfl,ab]
 exact ⟨rfl,by trivial⟩
theorem zO (hl:ls.length≤4) (H:aG (dN s fb ls::d9 t m ls::F) h):aE prog 34 [aM s,aM t] h fun v h'=>v=.bool true∧aG (dN s fb ls::d9 t m ls::F) h':=by
 apply EA.ap
 unfold Ja
 refine (pW hl H).mono ?_
 rintro v h2 ⟨ea,rfl,H2⟩
 rw [aI]
 simp only [aK]
 obtain ⟨qs,sa,sc,hq,H3⟩:=gy (H2.mv 2)
 refine bH (a:=sa) (l:=ls.length) (m:=sc) H3 rfl ?_
 rw [show (((ls.length:Nat):Int)!=(ls.length:Int))=false from by simp,ab]
 refine ⟨.int .i64 (ls.length:Int),(zX (H2.mv 1)).mono (by rintro v h3 ⟨rfl,rfl⟩; exact ⟨rfl,rfl⟩),?_⟩
 rw [aL]
 refine bH (a:=sa) (l:=ls.length) (m:=sc) H3 rfl ?_
 rw [show (((ls.length:Nat):Int)!=(ls.length:Int))=false from by simp,ab]
 refine ⟨fun st hh=>hh=h2∧∃ i:Nat,st=(i:Int)∧i≤ls.length,fun st _=>((ls.length:Int) - st).toNat,⟨rfl,0,rfl,aw _⟩,?_⟩
 rintro st h3 ⟨rfl,i,rfl,hi⟩
 by_cases hlt:i<ls.length
 rotate_left
 · rw [af (by omega),ab];exact ⟨by trivial,H2.drop⟩
 rw [ah (show ((i:Int)<(ls.length:Int)) by omega),ae]
 obtain ⟨L,hL⟩:∃ L,ls[i]? = some L:=⟨_,ai hlt⟩
 refine cN (s:=(L.dur:Int)) (aH H2) (aq _) (by rw [List.getElem?_map,hL]; rfl) fun b hb=>CI hb ?_
 refine bH (a:=sa) (l:=ls.length) (m:=sc) H3 rfl ?_
 refine sj hq hL H3 ?_
 rw [show (((L.dur:Nat):Int)!=(L.dur:Int))=false from by simp,ab,aN (by omega)]
 exact ⟨⟨rfl,i+1,rfl,by omega⟩,by show ((ls.length:Int) - ((i+1:Nat):Int)).toNat<((ls.length:Int) - (i:Int)).toNat; omega⟩
theorem ul {parts:Int} (H:aG F h):aE prog 16 [.int .i64 parts] h fun v h'=>∃ (a:Option Addr) (n c:Nat),n≤5∧((n:Int)=parts∨5<parts∨parts<0∨n=5)∧v=.slice a n c∧aG (aQ 86 2 a n c ((dY n).flatMap fh)::F) h':=by
 apply EN.ap
 unfold Jl
 have hz:∀ i,(dY i).length=i:=fun i=>length_replicate
 refine ⟨fun st hh=>∃ (i:Nat) (a:Option Addr) (c:Nat),st=(⟨a,(dY i).length,c⟩,(i:Int))∧i≤5∧((i:Int)≤parts∨parts<0)∧aG (aQ 86 2 a (dY i).length c ((dY i).flatMap fh)::F) hh,fun st _=>((5:Int) - st.2).toNat,
  ⟨0,none,0,rfl,aw _,by omega,bR 86 2 H⟩,?_⟩
 rintro st h2 ⟨i,a,c,rfl,hi,hp,H2⟩
 dsimp only
 have out:(¬ (i:Int)<parts∨¬ i<5)→∃ (a':Option Addr) (n c':Nat),n≤5∧((n:Int)=parts∨5<parts∨parts<0∨n=5)∧Value.slice a (dY i).length c=.slice a' n c'∧aG (aQ 86 2 a' n c' ((dY n).flatMap fh)::F) h2:=fun h=>by
  refine ⟨a,i,c,hi,by omega,by rw [hz],?_⟩;rw [hz] at H2;exact H2
 by_cases h1:(i:Int)<parts
 rotate_left
 · rw [af h1,ab];exact out (.inl h1)
 rw [ah h1,ae]
 by_cases h5:i<5
 rotate_left
 · rw [af (by omega),ab];exact out (.inr h5)
 rw [ah (show ((i:Int)<5) by omega),ae]
 refine aW H2 fun b0 h3 H3=>?_
 refine CU (D:=dY i) (x:=(0,0)) (by rw [hz]; omega) H3 fun a' c' h4 H5=>?_
 rw [aI]
 have e:dY i++[(0,0)]=dY (i+1):=(List.replicate_succ' ..).symm
 rw [e] at H5 ⊢
 exact ⟨⟨i+1,a',c',by rw [IntWalk.i64_in _ (by omega)]; rfl,by omega,by omega,H5⟩,by rw [IntWalk.i64_in _ (by omega)]; show ((5:Int) - ((i:Int)+1)).toNat<((5:Int) - (i:Int)).toNat; omega⟩
end
end Go.Proofs.YtdpaiiibndnanaaGreatDoor
