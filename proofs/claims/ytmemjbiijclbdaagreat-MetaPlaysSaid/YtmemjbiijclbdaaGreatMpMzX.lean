/- The document's log: a name's number,a fold read back,Open. -/
import Derived.Test.YtmemjbiijclbdaaGreatMpMyX
import Derived.Test.YtmemjbiijclbdaaGreatMpSy5
import Derived.Test.YtmemjbiijclbdaaGreatMpUxX
import Derived.Test.YtmemjbiijclbdaaGreatMpPzX
namespace Go.Proofs.YtmemjbiijclbdaaGreat
open Go.Builtin (append_)
open Go.IntKind (wrap)
open Go.Proofs.Tryz (prog)
open List (getD_eq_getElem?_getD length_drop append_assoc take_append_drop map_append getElem?_map filter_cons filter_sublist length_filter_le flatMap_append append_nil map_map nil_append cons_append drop_eq_getElem_cons take_length mem_cons_self filter_append singleton_append drop_eq_nil_of_le)
open Go Go.RowKit Go.MapKept
set_option linter.unusedVariables false
set_option linter.unusedSimpArgs false
open AF (bA dq bm cu fe dz ey be ed fY jn Gr lr dB eI eD gw)
open Hex (cU cO)
def Br (f0:Option Addr) (dir0:ByteArray) (b0:Nat) (x0a:Option Addr) (x0l:Nat) (h_12:Heap) (Q:Value→Heap→Prop):Prop:=
 aZ (fun again1 (s1:Int) h_13=>
  (bif decide ((s1:Int)<(x0l:Int)) then
   aR x0a x0l s1 1 fun a2=>
   Ld h_13 a2 fun v6=>DS v6 fun x15=>
   aC prog 55 [.string x15,.int .u8 98] h_13 fun r10 h_14=>
   ∃ (x16:Int),∃ (x17:Bool),r10=.tuple #[.int .i64 x16,.bool x17]∧
   (bif !x17 then
    again1 (wrap .i64 (s1+1)) h_14
   else
    aR x0a x0l s1 1 fun a3=>
    Ld h_14 a3 fun v7=>DS v7 fun x18=>
    aC prog 56 [.pointer f0,.string dir0,.string x18] h_14 fun r11 h_15=>
    ∃ (x19:ByteArray),∃ (x20:Int),r11=.tuple #[.string x19,.int .i64 x20]∧
    (bif (x20:Int)!=0 then
     Q (.tuple #[.pointer none,.int .i64 x20]) h_15
    else
     Ld h_15 ((Addr.mk b0 0 none).add 2) fun v8=>aT v8 fun x21a x21l x21c=>
     Al h_15 (.cells #[.int .i64 x16,.string x19] 137) fun b2 h_16=>
     aX prog (append_ #[127,127] 127 #[.slice x21a x21l x21c,.slice (some (Addr.mk b2 0 none)) 1 1]) h_16 fun r13 h_17=>
     aT r13 fun x22a x22l x22c=>
     bz h_17 (((Addr.mk b0 0 none).add 2).add 0) (.slice x22a x22l x22c) fun h_19=>
     again1 (wrap .i64 (s1+1)) h_19))
  else
   Q (.tuple #[.pointer (some (Addr.mk b0 0 none)),.int .i64 0]) h_13)) 0 h_12
theorem LP:prog.underlying 128=some (.slice 2):=by kernel_rfl
theorem GK:fS prog 128=true:=by kernel_rfl
theorem LQ:prog.underlying 127=some (.slice 137):=by kernel_rfl
theorem GL:fS prog 127=true:=by kernel_rfl
theorem GZ:jY prog 137 2 24=true:=by kernel_rfl
abbrev uz (D:List (Int×Unit)):List Value:=D.map fun p=>iv p.1
theorem En {D:List (Int×Unit)} {i:Nat} {p:Int×Unit} (h:D[i]? = some p):(uz D)[i]? = some (iv p.1):=by rw [getElem?_map,h]; rfl
abbrev dQ (p:Int×List Nat):List Value:=[iv p.1,.string (bT p.2)]
theorem oo (p:Int×List Nat):(dQ p).length=2:=rfl
abbrev jh (m:Nat) (d:ByteArray) (a1:Option Addr) (l1 c1:Nat) (a2:Option Addr) (l2 c2:Nat) (a3:Option Addr) (l3 c3:Nat):Array Value:=#[aI m,.string d,.slice a1 l1 c1,.slice a2 l2 c2,.slice a3 l3 c3]
def fh (r m:Nat) (M:bA):aE:=mu fun q:(Option Addr×Nat)×(Option Addr×Nat)×(Option Addr×Nat)=>cr [pt r (.cells (jh m M.dir q.1.1 M.S.length q.1.2 q.2.1.1 M.Fo.length q.2.1.2 q.2.2.1 M.D.length q.2.2.2) 130 (0,0)),
 aL 137 2 q.1.1 M.S.length q.1.2 (M.S.flatMap dQ),aL 2 1 q.2.1.1 M.Fo.length q.2.1.2 (uz M.Fo),aL 137 2 q.2.2.1 M.D.length q.2.2.2 (M.D.flatMap dQ)]
section
variable {F:List aE} {h:Heap} {r m:Nat} {M:bA} {A:AF.FS} {dir:ByteArray}
theorem eh (H:aD (fh r m M::F) h):∃ a1 c1 a2 c2 a3 c3,aD (pt r (.cells (jh m M.dir a1 M.S.length c1 a2 M.Fo.length c2 a3 M.D.length c3) 130 (0,0))::aL 137 2 a1 M.S.length c1 (M.S.flatMap dQ)::aL 2 1 a2 M.Fo.length c2 (uz M.Fo)::aL 137 2 a3 M.D.length c3 (M.D.flatMap dQ)::F) h:=by
 obtain ⟨⟨⟨a1,c1⟩,⟨a2,c2⟩,⟨a3,c3⟩⟩,H2⟩:=bg.1 H
 exact ⟨a1,c1,a2,c2,a3,c3,H2.open⟩
theorem dI {a1 a2 a3:Option Addr} {c1 c2 c3:Nat} (H:aD (pt r (.cells (jh m M.dir a1 M.S.length c1 a2 M.Fo.length c2 a3 M.D.length c3) 130 (0,0))::aL 137 2 a1 M.S.length c1 (M.S.flatMap dQ)::aL 2 1 a2 M.Fo.length c2 (uz M.Fo)::aL 137 2 a3 M.D.length c3 (M.D.flatMap dQ)::F) h):aD (fh r m M::F) h:=
 bg.2 ⟨((a1,c1),(a2,c2),(a3,c3)),aD.shut (m:=[_,_,_,_]) H⟩
theorem mp {hh:Heap} {a:Option Addr} {D:List (Int×Unit)} {l i:Nat} {p:Int×Unit} {K:Int→Prop} (hr:dF hh a (uz D)) (hl:D.length=l) (hp:D[i]? = some p) (hK:K p.1):aR a l (i:Int) 1 fun b=>Ld hh b fun v=>DI .i64 v K:=by
 have h1:=En hp
 have h2:(uz D).length=l:=by rw [← hl]; exact an _
 exact cf hr h2 h1 fun b _ hc=>⟨iv p.1,hc,p.1,rfl,hK⟩
theorem qb {a:Option Addr} {c l:Nat} {D:List (Int×Unit)} {v:Int} {K:Value→Heap→Prop} (hl:D.length=l) (hb:l<1000000000) (H:aD (aL 2 1 a l c (uz D)::F) h)
  (hK:∀ a' c' h',aD (aL 2 1 a' (D++[(v,())]).length c' (uz (D++[(v,())]))::F) h'→K (.slice a' (D++[(v,())]).length c') h') :
  Al h (.cells #[.int .i64 v] 2) fun b0 h1=>aX prog (append_ #[128,128] 128 #[.slice a l c,.slice (some (Addr.mk b0 0 none)) 1 1]) h1 K:=by
 subst hl
 refine aQ H fun b0 h1 H1=>?_
 refine jS LP GK GX (H1.mv 1) (n:=1) (ys:=[iv v]) (ce (ln H1 rfl) rfl) (by intro u hu; simp at hu; subst hu; rfl) (by omega) fun a' c' h2 _ H2=>?_
 have e1:uz D++[iv v]=uz (D++[(v,())]):=by unfold uz; rw [map_append]; rfl
 have e2:D.length+1=(D++[(v,())]).length:=by rw [am]; rfl
 rw [e1,e2] at H2
 rw [e2]
 exact hK a' c' h2 (H2.ordT 2 [0])
theorem ju {hh:Heap} {a:Option Addr} {E:fe} {l i:Nat} {p:Int×List Nat} {K:Int→Prop} (hr:dF hh a (E.flatMap dQ)) (hl:E.length=l) (hp:E[i]? = some p) (hK:K p.1):aR a l (i:Int) 2 fun b=>Ld hh (b.add 0) fun v=>DI .i64 v K:=
 fX (f:=dQ) (sz:=2) oo (by decide) hr hl hp fun b hb hc=>⟨iv p.1,hc 0 _ rfl,p.1,rfl,hK⟩
theorem Hh {hh:Heap} {a:Option Addr} {E:fe} {l i:Nat} {p:Int×List Nat} {K:ByteArray→Prop} (hr:dF hh a (E.flatMap dQ)) (hl:E.length=l) (hp:E[i]? = some p) (hK:K (bT p.2)):aR a l (i:Int) 2 fun b=>Ld hh (b.add 1) fun v=>DS v K:=
 fX (f:=dQ) (sz:=2) oo (by decide) hr hl hp fun b hb hc=>⟨.string (bT p.2),hc 1 _ rfl,bT p.2,rfl,hK⟩
theorem gX {a:Option Addr} {c l:Nat} {E:fe} {n:Int} {x:List Nat} {s:ByteArray} {K:Value→Heap→Prop} (hs:s=bT x) (hl:E.length=l) (hb:l<1000000000) (H:aD (aL 137 2 a l c (E.flatMap dQ)::F) h)
  (hK:∀ a' c' h',aD (aL 137 2 a' (E++[(n,x)]).length c' ((E++[(n,x)]).flatMap dQ)::F) h'→K (.slice a' (E++[(n,x)]).length c') h') :
  Al h (.cells #[.int .i64 n,.string s] 137) fun b0 h1=>aX prog (append_ #[127,127] 127 #[.slice a l c,.slice (some (Addr.mk b0 0 none)) 1 1]) h1 K:=by
 subst hl hs
 refine aQ H fun b0 h1 H1=>?_
 refine jR LQ GL GZ (H1.mv 1) (n:=1) (ys:=dQ (n,x)) (ce (ln H1 rfl) rfl) (by intro u hu; simp [dQ] at hu; rcases hu with rfl | rfl <;> rfl) (by omega) fun a' c' h2 _ H2=>?_
 have e1:E.flatMap dQ++dQ (n,x)=(E++[(n,x)]).flatMap dQ:=by rw [flatMap_append]; simp
 have e2:E.length+1=(E++[(n,x)]).length:=by rw [am]; rfl
 rw [e1,e2] at H2
 rw [e2]
 exact hK a' c' h2 (H2.ordT 2 [0])
def mI (c:Nat) (s:ByteArray):Option Int:=match dz s with
 | some (d,n)=>if d=c then some n else none
 | none=>none
theorem wQ {s:ByteArray} {c:Nat} (hc:c=98∨c=102) (hz:s.size≤1099511627776) (H:aD F h):aC prog 55 [.string s,.int .u8 (c:Int)] h fun v h'=>v=.tuple #[.int .i64 ((mI c s).getD 0),.bool (mI c s).isSome]∧aD F h':=by
 apply Ih.ap
 unfold MM
 by_cases hs:s.size=18
 rotate_left
 · rw [show (((s.size:Nat):Int)!=18)=true from by rw [bne_iff_ne]; omega,ab];have e:mI c s=none:=by unfold mI AF.dz; rw [ak fun hh=>hs hh.1]
   rw [e];exact ⟨rfl,H⟩
 rw [show (((s.size:Nat):Int)!=18)=false from by rw [hs]; rfl,aa]
 have hl:(sb s).length=18:=by rw [bd,hs]
 obtain ⟨x0,hx0⟩:∃ x,(sb s)[0]? = some x:=⟨_,ah (by omega)⟩
 obtain ⟨x1,hx1⟩:∃ x,(sb s)[1]? = some x:=⟨_,ah (by omega)⟩
 have b0:bt s 0=(x0:Int):=iG hx0
 have b1:bt s 1=(x1:Int):=iG hx1
 refine ⟨by decide,by omega,?_⟩
 rw [b0]
 by_cases h0:x0=c
 rotate_left
 · rw [show ((x0:Int)!=(c:Int))=true from by rw [bne_iff_ne]; omega,ab];have e:mI c s=none:=by
    unfold mI
    cases hk:dz s with
    | none=>rfl
    | some q=>
      obtain ⟨d,n⟩:=q;have:=AF.dz;unfold AF.dz at hk;split at hk
      · rename_i hh
        cases hu:Hex.cO ((sb s).drop 2) with
        | none=>rw [hu] at hk; cases hk
        | some v=>
          rw [hu] at hk;simp only [Option.map_some,Option.some.injEq,Prod.mk.injEq] at hk;have hg:(sb s).getD 0 0=x0:=by rw [getD_eq_getElem?_getD,hx0]; rfl
          rw [hg] at hk;exact ak (by omega)
      · cases hk
   rw [e];exact ⟨rfl,H⟩
 subst h0
 rw [show ((x0:Int)!=(x0:Int))=false from by simp,aa]
 refine ⟨by decide,by omega,?_⟩
 rw [b1]
 by_cases h1:x1=46
 rotate_left
 · rw [show ((x1:Int)!=46)=true from by rw [bne_iff_ne]; omega,ab];have e:mI x0 s=none:=by
    unfold mI AF.dz;rw [ak];rintro ⟨_,h3,_⟩;rw [hx1] at h3;cases h3;exact h1 rfl
   rw [e];exact ⟨rfl,H⟩
 subst h1
 rw [show ((((46:Nat):Int))!=46)=false from rfl,aa]
 refine ⟨by decide,by omega,by omega,?_⟩
 have e2:(2:Int).toNat=2:=rfl
 have e3:((s.size:Nat):Int).toNat=18:=by omega
 rw [e2,e3]
 have he:sb (s.extract 2 18)=(sb s).drop 2:=by
  rw [ff,ar (by rw [length_drop]; omega)]
 refine (tS (by rw [← bd,he,length_drop]; omega) H).mono ?_
 rintro v h1 ⟨rfl,H1⟩
 rw [he]
 have hk:dz s=(Hex.cO ((sb s).drop 2)).map (fun n:Nat=>(x0,(n:Int))):=by
  unfold AF.dz;rw [al ⟨hs,hx1,by rcases hc with rfl | rfl <;> simp [hx0]⟩];have:(sb s).getD 0 0=x0:=by rw [getD_eq_getElem?_getD,hx0]; rfl
  rw [this]
 have e:mI x0 s=(Hex.cO ((sb s).drop 2)).map fun n:Nat=>(n:Int):=by
  unfold mI;rw [hk]
  cases Hex.cO ((sb s).drop 2) with
  | none=>rfl
  | some n=>exact al rfl
 rw [e]
 cases Hex.cO ((sb s).drop 2) with
 | none=>exact ⟨0,false,rfl,rfl,H1⟩
 | some n=>exact ⟨(n:Int),true,rfl,rfl,H1⟩
theorem pF {c i:Nat} {ks:List ByteArray} {s:ByteArray} (hs:ks[i]? = some s):cM c (ks.take (i+1))=cM c (ks.take i)++(match mI c s with
 | some n=>[n]
 | none=>[]):=by
 rw [ax,hs]
 show cM c (ks.take i++[s])=_
 rw [lC]
 congr 1
 unfold mI
 cases dz s with
 | none=>rfl
 | some q=>
   obtain ⟨d,n⟩:=q;by_cases e:d=c
   · simp [e]
   · simp [e]
theorem zF {c:Nat} {s:ByteArray} {n:Int} (h:mI c s=some n):s=cu c n:=by
 unfold mI at h
 split at h
 · rename_i d k hk;split at h
   · rename_i e;cases h;rw [← e];exact (lJ hk).2.2
   · cases h
 · cases h
set_option maxHeartbeats 1000000 in
theorem CR {bs:List Nat} {last:Int} (h8:B8 bs) (hl:bs.length≤16777216) (H:aD F h) :
  aC prog 58 [.string (bT bs),.int .i64 last] h fun v h'=>(∃ a c E,dB bs last=some E∧v=.tuple #[.slice a E.length c,.bool true]∧aD (aL 137 2 a E.length c (E.flatMap dQ)::F) h')∨
   (dB bs last=none∧(∃ a l c,v=.tuple #[.slice a l c,.bool false])∧aD F h'):=by
 apply Ie.ap
 unfold MJ
 refine (AK (s:=bT bs) (by rw [i4]; omega) H).mono ?_
 rintro v h1 (⟨ps,a1,c1,hu,rfl,H1⟩ | ⟨hu,rfl,H1⟩)
 rotate_left
 · rw [bM h8] at hu;refine ⟨none,0,0,false,rfl,?_⟩;rw [aA,ab];exact .inr ⟨by unfold dB; rw [hu],⟨_,_,_,rfl⟩,H1⟩
 rw [bM h8] at hu
 have hmass:=(ja hu).2
 have hplen:=qT hmass
 refine ⟨a1,ps.length,c1,true,rfl,?_⟩
 rw [az,aa]
 by_cases hne:ps=[]
 · subst hne;rw [show ((((([]:DX).length:Nat):Int))==0)=true from rfl,ab];exact .inr ⟨by unfold dB; rw [hu],⟨_,_,_,rfl⟩,H1.drop⟩
 have hpos:0<ps.length:=List.length_pos_iff.2 hne
 rw [iW (show ¬ ((ps.length:Int)=0) by omega),aa]
 have hun:dB bs last=match lr ps [] with
   | none=>none
   | some E=>if bm E=last then some E else none:=by
  unfold dB;rw [hu]
  cases ps with
  | nil=>exact absurd rfl hne
  | cons p l=>rfl
 refine aZ.upto ps.length (fun i (s:Sl×Int) h3=>s.2=(i:Int)∧i≤ps.length∧∃ E:fe,lr ps []=lr (ps.drop i) E∧gQ E∧(∀ p∈E,0≤p.1)∧E.length=i∧s.1.l=i∧aD (aL 137 2 s.1.a i s.1.c (E.flatMap dQ)::aL 98 2 a1 ps.length c1 (ps.flatMap bV)::F) h3) (fun s=>ps.length - s.2.toNat) (fun i s h2 hh=>⟨hh.2.1,by rw [hh.1]; omega⟩)
  ⟨rfl,au _,[],rfl,List.Pairwise.nil,by simp,rfl,rfl,bE 137 2 H1⟩ ?_ ?_
 · rintro i ⟨⟨sa,sl,sc⟩,s2⟩ h3 again hi ⟨rfl,_,E,hE,hEu,hE0,hEl,hsl,H3⟩ go;dsimp only at hsl H3 ⊢;subst hsl;rw [af (show ((sl:Int)<(ps.length:Int)) by omega),ab];obtain ⟨⟨k,x⟩,hx⟩:∃ x,ps[sl]? = some x:=⟨_,ah hi⟩
   have hdrop:ps.drop sl=(k,x)::ps.drop (sl+1):=by
    rw [drop_eq_getElem_cons hi];rw [ah hi] at hx;rw [Option.some.inj hx]
   have hm:=oZ (ai hx);dsimp only at hm;refine fX (f:=bV) (sz:=2) (x:=(k,x)) i3 (by decide) (aH (H3.mv 1)) rfl hx fun b hb hc=>?_;refine ⟨.string k,hc 0 _ rfl,k,rfl,?_⟩;refine (tS (s:=k) (by omega) H3).mono ?_;rintro v h7 ⟨rfl,H8⟩;rw [hdrop] at hE
   conv at hE=>rhs; unfold lr
   dsimp only at hE;have hw:wrap .i64 ((sl:Int)+1)=((sl+1:Nat):Int):=aK (by omega);rw [hw]
   cases hk:cO (sb k) with
   | none=>
     rw [hk] at hE;refine ⟨0,false,rfl,?_⟩;rw [aA,ab];exact .inr ⟨by rw [hun,hE],⟨_,_,_,rfl⟩,H8.ordT 2 []⟩
   | some n=>
     rw [hk] at hE;dsimp only at hE;have hsx:x=bT (sb x):=(uu x).symm;refine ⟨(n:Int),true,rfl,?_⟩;rw [az,aa];have push:¬ ((n:Int)≤bm E)→aR a1 ps.length (sl:Int) 2 fun a3=>
       Ld h7 (a3.add 1) fun v3=>DS v3 fun x7=>
       Al h7 (.cells #[.int .i64 (n:Int),.string x7] 137) fun b1 h_5=>
       aX prog (append_ #[127,127] 127 #[.slice sa sl sc,.slice (some (Addr.mk b1 0 none)) 1 1]) h_5 fun r5 h_6=>
       aT r5 fun l_1a l_1l l_1c=>
       again (⟨l_1a,l_1l,l_1c⟩,((sl+1:Nat):Int)) h_6:=fun hle=>by
      refine fX (f:=bV) (sz:=2) (x:=(k,x)) i3 (by decide) (aH (H8.mv 1)) rfl hx fun b hb hc=>?_;refine ⟨.string x,hc 1 _ rfl,x,rfl,?_⟩;rw [ak hle] at hE;refine gX (n:=(n:Int)) hsx hEl (by omega) H8 fun a' c' h9 H9=>?_;rw [aF];have hl1:(E++[((n:Int),sb x)]).length=sl+1:=by rw [am,hEl]; rfl
      refine go _ _ ⟨rfl,by omega,E++[((n:Int),sb x)],hE,pZ hEu fun q hq=>?_,fun q hq=>?_,hl1,hl1,?_⟩
      · have:=AF.gU hq;dsimp only;omega
      · rcases List.mem_append.1 hq with hq | hq
        · exact hE0 q hq
        · rw [List.mem_singleton.1 hq];dsimp only;omega
      · rw [hl1] at H9;exact H9
     by_cases h0:sl=0
     · have hE00:E=[]:=List.length_eq_zero_iff.1 (by omega);rw [ae (show ¬ ((sl:Int)>0) by omega),aa];refine push ?_;rw [hE00];show ¬ ((n:Int) ≤ -1);omega
     · rw [af (show ((sl:Int)>0) by omega),ab];have hw1:wrap .i64 ((sl:Int) - 1)=((sl - 1:Nat):Int):=by rw [IntWalk.i64_in _ (by omega)]; omega
       rw [hw1];obtain ⟨q,hq⟩:∃ q,E[sl - 1]? = some q:=⟨_,ah (by omega)⟩
       have htop:bm E=q.1:=AF.jb hEu hE0 (by rw [hEl]; exact hq);refine ju (aH H8) hEl hq ?_;by_cases hle:(n:Int)≤q.1
       · rw [af hle,ab];rw [al (by omega)] at hE;exact .inr ⟨by rw [hun,hE],⟨_,_,_,rfl⟩,H8.ordT 2 []⟩
       · rw [ae hle,aa];exact push (by omega)
 · rintro ⟨⟨sa,sl,sc⟩,s2⟩ h3 again ⟨rfl,_,E,hE,hEu,hE0,hEl,hsl,H3⟩;dsimp only at hsl H3 ⊢;subst hsl;rw [ae (by omega),aa];rw [List.drop_length] at hE;have hE2:lr ps []=some E:=hE;have hw1:wrap .i64 (((ps.length:Nat):Int) - 1)=((ps.length - 1:Nat):Int):=by rw [IntWalk.i64_in _ (by omega)]; omega
   rw [hw1];obtain ⟨q,hq⟩:∃ q,E[ps.length - 1]? = some q:=⟨_,ah (by omega)⟩
   have htop:bm E=q.1:=AF.jb hEu hE0 (by rw [hEl]; exact hq);refine ju (aH H3) hEl hq ?_;by_cases ht:bm E=last
   · rw [← htop,jX ht];refine .inl ⟨sa,sc,E,by rw [hun,hE2]; exact al ht,by rw [hEl],?_⟩;rw [hEl];exact H3.ordT 2 [0]
   · rw [← htop,iW ht];exact .inr ⟨by rw [hun,hE2]; exact ak ht,⟨_,_,_,rfl⟩,H3.ordT 2 []⟩
end
section
variable {F:List aE} {h:Heap} {r m:Nat} {M:bA} {A:AF.FS} {dir:ByteArray}
set_option maxHeartbeats 1000000 in
theorem xm {b0 c:Nat} {a:Option Addr} {ks:List ByteArray} {Fo:List (Int×Unit)} {D:fe} {Q:Value→Heap→Prop} (W:A.WF) (hl:ks.length≤4096) (hz:∀ s∈ks,s.size≤32)
  (H:aD (fh b0 m ⟨dir,[],Fo,D⟩::aL 9 1 a ks.length c (ks.map Value.string)::bp m A::F) h)
  (hQ:∀ v h',(∃ L,eD A dir (cM 98 ks)=.ok L∧v=.tuple #[aI b0,.int .i64 0]∧aD (fh b0 m ⟨dir,L,Fo,D⟩::bp m A::F) h')∨
   (∃ e:Nat,eD A dir (cM 98 ks)=.error e∧e≠0∧v=.tuple #[.pointer none,.int .i64 (e:Int)]∧aD (bp m A::F) h')→Q v h'):Br (some ⟨m,0,none⟩) dir b0 a ks.length h Q:=by
 unfold Br
 refine aZ.upto ks.length (fun i (s0:Int) h'=>s0=(i:Int)∧i≤ks.length∧∃ L,eD A dir (cM 98 (ks.take i))=.ok L∧aD (fh b0 m ⟨dir,L,Fo,D⟩::aL 9 1 a ks.length c (ks.map Value.string)::bp m A::F) h') (fun s0=>ks.length - s0.toNat) (fun i s0 h' hh=>⟨hh.2.1,by rw [hh.1]; omega⟩)
  ⟨rfl,au _,[],rfl,H⟩ ?_ ?_
 · rintro i s0 h' again hi ⟨rfl,_,L,hL,K⟩ go;rw [af (show ((i:Int)<(ks.length:Int)) by omega),ab];obtain ⟨s,hsi⟩:∃ s,ks[i]? = some s:=⟨_,ah hi⟩
   have hss:=hz s (ai hsi);have hw:wrap .i64 ((i:Int)+1)=((i+1:Nat):Int):=aK (by omega);rw [hw];have hnx:=pF (c:=98) hsi;have hLl:L.length≤i:=by
    have h1:=congrArg List.length (AF.qH W _ _ hL mo).1;have h2:=jl 98 (ks.take i);rw [an] at h1;rw [aq] at h2;omega
   refine eR (aH (K.mv 1)) rfl hsi fun bb hc=>?_;refine ⟨.string s,hc,s,rfl,?_⟩;refine (wQ (c:=98) (.inl rfl) (by omega) K).mono ?_;rintro v h1 ⟨rfl,K1⟩;refine ⟨_,_,rfl,?_⟩
   cases hn:mI 98 s with
   | none=>
     rw [hn] at hnx;rw [show (Option.isSome (none:Option Int))=false from rfl,aA,ab];exact go _ _ ⟨rfl,by omega,L,by rw [hnx,append_nil]; exact hL,K1⟩
   | some n=>
     rw [hn] at hnx;rw [show (Option.isSome (some n))=true from rfl,az,aa];rw [show ((some n).getD 0)=n from rfl];have hsn:=zF hn;refine eR (aH (K1.mv 1)) rfl hsi fun bb hc=>?_;refine ⟨.string s,hc,s,rfl,?_⟩;refine (wP (dir:=dir) (name:=s) W (K1.mv 2)).mono ?_;rintro v h2 ⟨rfl,K2⟩;have hmore:=AF.nd (A:=A) (dir:=dir) (cM 98 (ks.take i)) [n];dsimp only at hnx;rw [← hnx,hL] at hmore;dsimp only at hmore;rw [AF.nf,← hsn] at hmore
     cases hg:A.get dir s with
     | error e=>
       have e0:=AF.yM hg;refine ⟨.empty,(e:Int),rfl,?_⟩;rw [bo e0,ab];rw [hg] at hmore;dsimp only at hmore;refine hQ _ _ (.inr ⟨e,?_,e0,rfl,K2.ordT 3 [0]⟩);have h3:ks=ks.take (i+1)++ks.drop (i+1):=(take_append_drop _ _).symm;have h4:cM 98 ks=cM 98 (ks.take (i+1))++cM 98 (ks.drop (i+1)):=by
        conv=>lhs; rw [h3]
        exact List.filterMap_append
       rw [h4,AF.nd,hmore]
     | ok bs=>
       rw [hg] at hmore;dsimp only at hmore;refine ⟨bT bs,0,rfl,?_⟩;rw [show ((0:Int)!=0)=false from rfl,aa];obtain ⟨a1,c1,a2,c2,a3,c3,K3⟩:=eh (K2.mv 1);refine bH K3 rfl ?_;refine gX (n:=n) (x:=bs) rfl rfl (by dsimp only; omega) (K3.mv 1) fun a' c' h3 K4=>?_;rw [aF];refine bQ (K4.mv 1) (show 2<5 by decide) rfl fun h4 K5=>?_;refine go _ _ ⟨rfl,by omega,L++[(n,bs)],hmore,?_⟩;have K6:=dI (M:=⟨dir,L++[(n,bs)],Fo,D⟩) K5;exact K6.ordT 3 [0,2,1]
 · rintro s0 h' again ⟨rfl,_,L,hL,K⟩;rw [ae (by omega),aa];rw [take_length] at hL;exact hQ _ _ (.inl ⟨L,hL,rfl,K.ordT 3 [0,2]⟩)
def Cs (m:Nat) (q:AF.FS×Except Nat bA) (F:List aE) (v:Value) (h':Heap):Prop:=
 (∃ r M,q.2=.ok M∧v=.tuple #[aI r,.int .i64 0]∧aD (fh r m M::bp m q.1::F) h')∨
 (∃ e:Nat,q.2=.error e∧e≠0∧v=.tuple #[.pointer none,.int .i64 (e:Int)]∧aD (bp m q.1::F) h')
set_option maxHeartbeats 1000000 in
theorem oE (W:A.WF) (W2:(A.prep dir).1.WF) (hs:A.steps+20000<1099511627776) (hm:A.files.length+20000<1099511627776) (H:aD (bp m A::F) h) :
  aC prog 22 [aI m,.string dir] h (Cs m (AF.gw A dir) F):=by
 apply IJ.ap
 unfold Nj
 refine (CS W hs hm H).mono ?_
 rintro v h5 (⟨ks,a,cc,hk',rfl,H5⟩ | ⟨e,hk',e0,rfl,H5⟩)
 rotate_left
 · refine ⟨none,0,0,(e:Int),rfl,?_⟩;rw [bo e0,ab];exact .inr ⟨e,by unfold AF.gw; rw [hk'],e0,rfl,H5⟩
 have hup:=AF.yB W2 hk'
 have hright:=AF.xE W2 (AF.oQ hk')
 have hlen:=AF.lH W2 (AF.oQ hk')
 have hz:∀ s∈ks,s.size≤32:=fun s hs=>AF.vA (hright s hs)
 obtain ⟨e1,e2,u1,u2⟩:=oM _ ks rfl hup
 have hk1:(be ks).1.map (·.1)=cM 98 ks:=by rw [e1,map_map]; exact List.map_id _
 have hopen:AF.gw A dir=((A.prep dir).1,match eI (A.prep dir).1 dir (be ks).2 with
  | .error e=>.error e
  | .ok D=>match eD (A.prep dir).1 dir (cM 98 ks) with
    | .error e=>.error e
    | .ok S=>.ok ⟨dir,S,(be ks).2,D⟩):=by
  unfold AF.gw;rw [hk',← hk1]
  all_goals rfl
 rw [hopen]
 refine ⟨a,ks.length,cc,0,rfl,?_⟩
 rw [show ((0:Int)!=0)=false from rfl,aa]
 refine aQ H5 fun b0 h6 H6=>?_
 generalize hB:(A.prep dir).1=B at *
 have start:aD (fh b0 m ⟨dir,[],[],[]⟩::aL 9 1 a ks.length cc (ks.map Value.string)::bp m B::F) h6:=
  dI (M:=⟨dir,[],[],[]⟩) (a1:=none) (c1:=0) (a2:=none) (c2:=0) (a3:=none) (c3:=0) ((bE 137 2 (bE 2 1 (bE 137 2 H6))).ordT 4 [3,0,1,2])
 have pairU:∀ i:Nat,((cM 102 (ks.take i)).map fun n=>(n,())).length≤i:=fun i=>by
  have:=jl 102 (ks.take i);rw [aq] at this;rw [an];omega
 refine aZ.upto ks.length (fun i (s0:Int) h'=>s0=(i:Int)∧i≤ks.length∧aD (fh b0 m ⟨dir,[],(cM 102 (ks.take i)).map (fun n=>(n,())),[]⟩::aL 9 1 a ks.length cc (ks.map Value.string)::bp m B::F) h') (fun s0=>ks.length - s0.toNat) (fun i s0 h' hh=>⟨hh.2.1,by rw [hh.1]; omega⟩)
  ⟨rfl,au _,start⟩ ?_ ?_
 · rintro i s0 h' again hi ⟨rfl,_,K⟩ go;rw [af (show ((i:Int)<(ks.length:Int)) by omega),ab];obtain ⟨s,hsi⟩:∃ s,ks[i]? = some s:=⟨_,ah hi⟩
   have hss:=hz s (ai hsi);have hw:wrap .i64 ((i:Int)+1)=((i+1:Nat):Int):=aK (by omega);rw [hw];have hnx:=pF (c:=102) hsi;refine eR (aH (K.mv 1)) rfl hsi fun bb hc=>?_;refine ⟨.string s,hc,s,rfl,?_⟩;refine (wQ (c:=102) (.inr rfl) (by omega) K).mono ?_;rintro v h1 ⟨rfl,K1⟩;refine ⟨_,_,rfl,?_⟩
   cases hn:mI 102 s with
   | none=>
     rw [hn] at hnx;rw [show (Option.isSome (none:Option Int))=false from rfl,aa];refine go _ _ ⟨rfl,by omega,?_⟩;rw [hnx,append_nil];exact K1
   | some n=>
     rw [hn] at hnx;rw [show (Option.isSome (some n))=true from rfl,ab];rw [show ((some n).getD 0)=n from rfl];obtain ⟨a1,c1,a2,c2,a3,c3,K3⟩:=eh K1;have hpl:=pairU i;refine bH K3 rfl ?_;refine qb rfl (by dsimp only; omega) (K3.mv 2) fun a' c' h3 K4=>?_;rw [aF];refine bQ (K4.mv 1) (show 3<5 by decide) rfl fun h4 K5=>?_;refine go _ _ ⟨rfl,by omega,?_⟩;rw [hnx,map_append];exact dI (M:=⟨dir,[],(cM 102 (ks.take i)).map (fun n=>(n,()))++[(n,())],[]⟩) (K5.ordT 4 [0,2,1,3])
 · rintro s0 h' again ⟨rfl,_,K⟩;rw [ae (by omega),aa];rw [take_length,← e2] at K;have hl2:(be ks).2.length≤4096:=by
    rw [e2,an];exact Nat.le_trans (jl _ _) hlen
   have hFu:gQ (be ks).2:=by rw [e2]; exact u2
   have hF0:∀ p∈(be ks).2,0≤p.1:=fun p hp=>by
    rw [e2] at hp;obtain ⟨m,hm,rfl⟩:=List.mem_map.1 hp;exact (mo m hm).1
   generalize (be ks).2=Fo at *;obtain ⟨a1,c1,a2,c2,a3,c3,K3⟩:=eh K;refine bH K3 rfl ?_;have fin:∀ (D:fe) (hh:Heap),eI B dir Fo=.ok D→aD (fh b0 m ⟨dir,[],Fo,D⟩::aL 9 1 a ks.length cc (ks.map Value.string)::bp m B::F) hh→Br (some ⟨m,0,none⟩) dir b0 a ks.length hh (Cs m (B,match eI B dir Fo with
    | .error e=>.error e
    | .ok D=>match eD B dir (cM 98 ks) with
      | .error e=>.error e
      | .ok S=>.ok ⟨dir,S,Fo,D⟩) F):=fun D hh hD K4=>by
    refine xm W2 hlen hz K4 fun v h' hO=>?_;rw [hD]
    rcases hO with ⟨L,hL,rfl,K5⟩ | ⟨e,hL,e0,rfl,K5⟩
    · exact .inl ⟨b0,_,by dsimp only; rw [hL],rfl,K5⟩
    · exact .inr ⟨e,by dsimp only; rw [hL],e0,rfl,K5⟩
   by_cases hne:Fo=[]
   · rw [ae (show ¬ (((Fo.length:Nat):Int)>0) by rw [hne]; exact Int.lt_irrefl 0),aa];exact fin [] _ (al ((AF.qm hF0).2 hne)) K
   have hpos:0<Fo.length:=List.length_pos_iff.2 hne;rw [af (show (((Fo.length:Nat):Int)>0) by omega),ab];refine bH K3 rfl (bH K3 rfl ?_);dsimp only;have hw1:wrap .i64 (((Fo.length:Nat):Int) - 1)=((Fo.length - 1:Nat):Int):=by rw [IntWalk.i64_in _ (by omega)]; omega
   rw [hw1];obtain ⟨q,hq⟩:∃ q,Fo[Fo.length - 1]? = some q:=⟨_,ah (by omega)⟩
   have htop:bm Fo=q.1:=AF.jb hFu hF0 hq;have hq0:=hF0 q (ai hq);refine mp (aH (K3.mv 2)) rfl hq ?_;refine (l8 (n:=q.1) K).mono ?_;rintro v h7 ⟨rfl,K7⟩;rw [aW];have hfg:eI B dir Fo=match B.get dir (cu 102 q.1) with
    | .error e=>.error e
    | .ok bs=>match dB bs q.1 with
      | none=>.error 70
      | some E=>.ok E:=by
    unfold eI;rw [htop,ak (by omega)]
    all_goals rfl
   refine ⟨?_,?_⟩
   · have:=fo 102 q.1;rw [show (cu 102 q.1).size=((⟨#[102,46]⟩:ByteArray)++bT (cU 16 (eY q.1))).size from rfl,ByteArray.size_append] at this;omega
   refine (wP (dir:=dir) (name:=cu 102 q.1) W2 (K7.mv 2)).mono ?_;rintro v h8 ⟨rfl,K8⟩
   cases hg:B.get dir (cu 102 q.1) with
   | error e=>
     have e0:=AF.yM hg;refine ⟨.empty,(e:Int),rfl,?_⟩;rw [bo e0,ab];exact .inr ⟨e,by rw [hfg,hg],e0,rfl,K8.ordT 3 [0]⟩
   | ok bs=>
     obtain ⟨h8,hbl⟩:=AF.B5 W2 hg;refine ⟨bT bs,0,rfl,?_⟩;rw [show ((0:Int)!=0)=false from rfl,aa];refine (CR (last:=q.1) h8 hbl K8).mono ?_;rintro v h9 (⟨ea,ec,E,hE,rfl,K9⟩ | ⟨hE,⟨ea,el,ec,rfl⟩,K9⟩)
     · refine ⟨ea,E.length,ec,true,rfl,?_⟩;obtain ⟨a1,c1,a2,c2,a3,c3,EL⟩:=eh (K9.mv 2);refine bQ (c':=jh m dir a1 0 c1 a2 Fo.length c2 ea E.length ec) EL (show 4<5 by decide) rfl fun h10 K11=>?_;rw [az,aa];have K12:=dI (M:=⟨dir,[],Fo,E⟩) (K11.ordT 6 [0,1,2,4,5]);exact fin E _ (by rw [hfg,hg]; dsimp only; rw [hE]) (K12.ordT 3 [0,2,1])
     · refine ⟨ea,el,ec,false,rfl,?_⟩;obtain ⟨a1,c1,a2,c2,a3,c3,EL⟩:=eh (K9.mv 1);refine bQ (c':=jh m dir a1 0 c1 a2 Fo.length c2 ea el ec) EL (show 4<5 by decide) rfl fun h10 K11=>?_;rw [aA,ab];exact .inr ⟨70,by rw [hfg,hg]; dsimp only; rw [hE],by decide,rfl,K11.ordT 6 [4]⟩
end
def iV:fe→fe→fe
 | [],S=>S
 | d::D,[]=>d::D
 | d::D,s::S=>if d.1<s.1 then d::iV D (s::S) else if s.1<d.1 then s::iV (d::D) S else d::iV D S
termination_by D S=>D.length+S.length
theorem BU (D:fe):iV D []=D:=by
 cases D <;> rw [iV]
theorem qS {p:Int×List Nat}:∀ (n:Nat) (D S:fe),D.length+S.length=n→p∈iV D S→p∈D∨p∈S:=by
 intro n
 induction n using Nat.strongRecOn with
 | _ n ih=>
   intro D S hn hp
   match D,S,hn with
   | [],S,hn=>rw [iV] at hp; exact .inr hp
   | d::D,[],hn=>rw [iV] at hp; exact .inl hp
   | d::D,s::S,hn=>
     rw [iV] at hp;simp only [ao] at hn;split at hp
     · rcases ay.1 hp with rfl | hp
       · exact .inl (mem_cons_self ..)
       · rcases ih _ (by simp only [ao]; omega) D (s::S) rfl hp with h | h
         · exact .inl (aB _ h)
         · exact .inr h
     · split at hp
       · rcases ay.1 hp with rfl | hp
         · exact .inr (mem_cons_self ..)
         · rcases ih _ (by simp only [ao]; omega) (d::D) S rfl hp with h | h
           · exact .inl h
           · exact .inr (aB _ h)
       · rcases ay.1 hp with rfl | hp
         · exact .inl (mem_cons_self ..)
         · rcases ih _ (by omega) D S rfl hp with h | h
           · exact .inl (aB _ h)
           · exact .inr (aB _ h)
theorem Eu {α:Type} {k:Int} {T:List (Int×α)} (h:∀ p∈T,k<p.1):cg T k=none:=ij.2 fun p hp e=>by
 have:=h p hp
 omega
theorem BV:∀ (n:Nat) (D S:fe),D.length+S.length=n→gQ D→gQ S→gQ (iV D S)∧∀ k,cg (iV D S) k=match cg D k with
  | some x=>some x
  | none=>cg S k:=by
 intro n
 induction n using Nat.strongRecOn with
 | _ n ih=>
   intro D S hn uD uS
   match D,S,hn with
   | [],S,hn=>rw [iV]; exact ⟨uS,fun k=>rfl⟩
   | d::D,[],hn=>
     rw [iV];refine ⟨uD,fun k=>?_⟩;cases cg (d::D) k <;> rfl
   | d::D,s::S,hn=>
     rw [iV];simp only [ao] at hn;obtain ⟨d1,d2⟩:=me.1 uD;obtain ⟨s1,s2⟩:=me.1 uS;split
     · rename_i hlt;obtain ⟨a,b⟩:=ih _ (by simp only [ao]; omega) D (s::S) rfl d2 uS;refine ⟨me.2 ⟨fun q hq=>?_,a⟩,fun k=>?_⟩
       · rcases qS _ _ _ rfl hq with h | h
         · exact d1 q h
         · rcases ay.1 h with rfl | h
           · exact hlt
           · have:=s1 q h;omega
       · rw [cm,cm d D,b];split <;> rfl
     · split
       · rename_i hlt;obtain ⟨a,b⟩:=ih _ (by simp only [ao]; omega) (d::D) S rfl uD s2;refine ⟨me.2 ⟨fun q hq=>?_,a⟩,fun k=>?_⟩
         · rcases qS _ _ _ rfl hq with h | h
           · rcases ay.1 h with rfl | h
             · exact hlt
             · have:=d1 q h;omega
           · exact s1 q h
         · rw [cm,cm s S,b];by_cases hk:s.1=k
           · rw [al hk,al hk];have:cg (d::D) k=none:=Eu fun p hp=>by
              rcases ay.1 hp with rfl | hp
              · omega
              · have:=d1 p hp;omega
             rw [this]
           · rw [ak hk,ak hk]
       · obtain ⟨a,b⟩:=ih _ (by omega) D S rfl d2 s2;refine ⟨me.2 ⟨fun q hq=>?_,a⟩,fun k=>?_⟩
         · rcases qS _ _ _ rfl hq with h | h
           · exact d1 q h
           · have:=s1 q h;omega
         · rw [cm,cm d D,cm s S,b];by_cases hk:d.1=k
           · rw [al hk,al hk]
           · rw [ak hk,ak hk,ak (by omega)]
theorem zI {D S:fe} (hD:gQ D) (hS:gQ S):iV D S=dq S D:=by
 obtain ⟨a,b⟩:=BV _ D S rfl hD hS
 refine qn a (AF.rx hS) fun k=>?_
 rw [b,AF.pf hD]
 cases cg D k <;> rfl
theorem mw {α:Type} {l:List α} {i:Nat} {x:α} (h:l[i]? = some x):l.drop i=x::l.drop (i+1):=by
 obtain ⟨hi,e⟩:=aj.1 h
 rw [drop_eq_getElem_cons hi,e]
section
variable {F:List aE} {h:Heap} {r m n:Nat} {M:bA} {A:AF.FS} {dir:ByteArray}
theorem kX {hh:Heap} {a:Option Addr} {E:fe} {l i:Nat} {p:Int×List Nat} {K:Int→ByteArray→Prop} (hr:dF hh a (E.flatMap dQ)) (hl:E.length=l) (hp:E[i]? = some p) (hK:K p.1 (bT p.2)) :
  aR a l (i:Int) 2 fun b=>Ld hh (b.add 0) fun c0=>Ld hh (b.add 1) fun c1=>∃ (x:Int),∃ (y:ByteArray),(Value.agg #[c0,c1])=.agg #[.int .i64 x,.string y]∧K x y:=
 fX (f:=dQ) (sz:=2) oo (by decide) hr hl hp fun b hb hc=>⟨iv p.1,hc 0 _ rfl,.string (bT p.2),hc 1 _ rfl,p.1,bT p.2,rfl,hK⟩
set_option maxHeartbeats 2000000 in
theorem rI (uD:gQ M.D) (uS:gQ M.S) (hD:M.D.length<100000000) (hS:M.S.length<100000000) (H:aD (fh r m M::F) h) :
  aC prog 59 [aI r] h fun v h'=>∃ a c,v=.slice a M.entries.length c∧aD (aL 137 2 a M.entries.length c (M.entries.flatMap dQ)::fh r m M::F) h':=by
 obtain ⟨a1,c1,a2,c2,a3,c3,H1⟩:=eh H
 have hE:M.entries=iV M.D M.S:=(zI uD uS).symm
 apply Id.ap
 unfold MI
 refine aZ.by (fun (st:Sl×Int×Int) h'=>∃ (i k:Nat) (out:fe),st.2.1=(i:Int)∧st.2.2=(k:Int)∧i≤M.D.length∧k≤M.S.length∧out++iV (M.D.drop i) (M.S.drop k)=M.entries∧out.length≤i+k∧st.1.l=out.length∧
   aD (aL 137 2 st.1.a out.length st.1.c (out.flatMap dQ)::pt r (.cells (jh m M.dir a1 M.S.length c1 a2 M.Fo.length c2 a3 M.D.length c3) 130 (0,0))::aL 137 2 a1 M.S.length c1 (M.S.flatMap dQ)::aL 2 1 a2 M.Fo.length c2 (uz M.Fo)::aL 137 2 a3 M.D.length c3 (M.D.flatMap dQ)::F) h')
  (fun st=>(M.D.length - st.2.1.toNat)+(M.S.length - st.2.2.toNat)) ⟨0,0,[],rfl,rfl,au _,au _,by rw [hE]; rfl,av _,rfl,bE 137 2 H1⟩ ?_
 rintro ⟨⟨oa,ol,oc⟩,s1,s2⟩ h2 again ⟨i,k,out,rfl,rfl,hi,hk,hout,holen,hol,K⟩ go
 dsimp only at hol K ⊢
 subst hol
 have wi:wrap .i64 ((i:Int)+1)=((i+1:Nat):Int):=aK (by omega)
 have wk:wrap .i64 ((k:Int)+1)=((k+1:Nat):Int):=aK (by omega)
 rw [wi,wk]
 have slD:∀ {Kx:Option Addr→Nat→Nat→Prop},Kx a3 M.D.length c3→aS (some (⟨r,0,none⟩:Addr)) fun a0=>Ld h2 (a0.add 4) fun v0=>aT v0 Kx:=fun hK=>bH (K.mv 1) rfl hK
 have slS:∀ {Kx:Option Addr→Nat→Nat→Prop},Kx a1 M.S.length c1→aS (some (⟨r,0,none⟩:Addr)) fun a0=>Ld h2 (a0.add 2) fun v0=>aT v0 Kx:=fun hK=>bH (K.mv 1) rfl hK
 have rdD:=aH (K.mv 4)
 have rdS:=aH (K.mv 2)
 have takeD:∀ {p:Int×List Nat} {k':Nat},M.D[i]? = some p→k'≤M.S.length→k≤k'→out++[p]++iV (M.D.drop (i+1)) (M.S.drop k')=M.entries→aR a3 M.D.length (i:Int) 2 fun a3=>
    Ld h2 (a3.add 0) fun c0=>Ld h2 (a3.add 1) fun c1=>∃ (x3:Int),∃ (x4:ByteArray),(Value.agg #[c0,c1])=.agg #[.int .i64 x3,.string x4]∧
    Al h2 (.cells #[.int .i64 x3,.string x4] 137) fun b0 h_1=>aX prog (append_ #[127,127] 127 #[.slice oa out.length oc,.slice (some (Addr.mk b0 0 none)) 1 1]) h_1 fun r1 h_2=>
    aT r1 fun out0a out0l out0c=>again (⟨out0a,out0l,out0c⟩,((i+1:Nat):Int),(k':Int)) h_2:=fun {p k'} hp hk' hkk he=>by
  refine kX rdD rfl hp ?_;refine gX (n:=p.1) (x:=p.2) rfl rfl (by omega) K fun a' c' h3 K3=>?_;rw [aF];have hi2:=(aj.1 hp).1;refine go _ _ ⟨i+1,k',out++[p],rfl,rfl,by omega,hk',he,by rw [am]; simp; omega,rfl,K3⟩ (by dsimp only; simp only [Int.toNat_natCast]; omega)
 have takeS:∀ {p:Int×List Nat},M.S[k]? = some p→out++[p]++iV (M.D.drop i) (M.S.drop (k+1))=M.entries→aR a1 M.S.length (k:Int) 2 fun a3=>
    Ld h2 (a3.add 0) fun c0=>Ld h2 (a3.add 1) fun c1=>∃ (x3:Int),∃ (x4:ByteArray),(Value.agg #[c0,c1])=.agg #[.int .i64 x3,.string x4]∧
    Al h2 (.cells #[.int .i64 x3,.string x4] 137) fun b0 h_1=>aX prog (append_ #[127,127] 127 #[.slice oa out.length oc,.slice (some (Addr.mk b0 0 none)) 1 1]) h_1 fun r1 h_2=>
    aT r1 fun out0a out0l out0c=>again (⟨out0a,out0l,out0c⟩,(i:Int),((k+1:Nat):Int)) h_2:=fun {p} hp he=>by
  refine kX rdS rfl hp ?_;refine gX (n:=p.1) (x:=p.2) rfl rfl (by omega) K fun a' c' h3 K3=>?_;rw [aF];have hk2:=(aj.1 hp).1;refine go _ _ ⟨i,k+1,out++[p],rfl,rfl,hi,by omega,he,by rw [am]; simp; omega,rfl,K3⟩ (by dsimp only; simp only [Int.toNat_natCast]; omega)
 refine slD ?_
 by_cases hiD:i<M.D.length
 · rw [af (show (i:Int)<(M.D.length:Int) by omega),ab];obtain ⟨d,hd⟩:∃ x,M.D[i]? = some x:=⟨_,ah hiD⟩
   refine slS ?_;by_cases hkS:k<M.S.length
   · rw [ae (show ¬ (k:Int)≥(M.S.length:Int) by omega),aa];obtain ⟨s,hs⟩:∃ x,M.S[k]? = some x:=⟨_,ah hkS⟩
     rw [mw hd,mw hs] at hout;refine slD ?_;rw [af (show (i:Int)<(M.D.length:Int) by omega),ab];refine slD (ju rdD rfl hd (slS (ju rdS rfl hs ?_)));by_cases hlt:d.1<s.1
     · rw [af hlt,ab];refine slD (takeD hd hk (av _) ?_);rw [iV,al hlt] at hout;rw [mw hs,append_assoc,singleton_append];exact hout
     · rw [ae hlt,aa];refine slD ?_;rw [ae (show ¬ (i:Int)≥(M.D.length:Int) by omega),aa];refine slS (ju rdS rfl hs (slD (ju rdD rfl hd ?_)));by_cases hgt:s.1<d.1
       · rw [af hgt,ab];refine slS (takeS hs ?_);rw [iV,ak hlt,al hgt] at hout;rw [mw hd,append_assoc,singleton_append];exact hout
       · rw [ae hgt,aa];refine slD (takeD (k':=k+1) hd (by omega) (by omega) ?_);rw [iV,ak hlt,ak hgt] at hout;rw [append_assoc,singleton_append];exact hout
   · rw [af (show (k:Int)≥(M.S.length:Int) by omega),ab];refine slD (takeD hd hk (av _) ?_);rw [drop_eq_nil_of_le (show M.S.length≤k by omega),BU] at hout ⊢;rw [mw hd] at hout;rw [append_assoc,singleton_append];exact hout
 · rw [ae (show ¬ (i:Int)<(M.D.length:Int) by omega),aa];rw [drop_eq_nil_of_le (show M.D.length≤i by omega)] at hout;rw [iV] at hout;refine slS ?_;by_cases hkS:k<M.S.length
   · rw [af (show (k:Int)<(M.S.length:Int) by omega),ab];obtain ⟨s,hs⟩:∃ x,M.S[k]? = some x:=⟨_,ah hkS⟩
     refine slS ?_;rw [ae (show ¬ (k:Int)≥(M.S.length:Int) by omega),aa];refine slD ?_;rw [ae (show ¬ (i:Int)<(M.D.length:Int) by omega),aa];refine slD ?_;rw [af (show (i:Int)≥(M.D.length:Int) by omega),ab];refine slS (takeS hs ?_);rw [drop_eq_nil_of_le (show M.D.length≤i by omega),iV];rw [mw hs] at hout;rw [append_assoc,singleton_append];exact hout
   · rw [ae (show ¬ (k:Int)<(M.S.length:Int) by omega),aa];rw [drop_eq_nil_of_le (show M.S.length≤k by omega),append_nil] at hout;subst hout;exact ⟨oa,oc,rfl,(dI (K.ordT 5 [1,2,3,4,0])).mv 1⟩
theorem CQ {a:Option Addr} {c:Nat} {E:fe} {id:Int} (hl:E.length<100000000000) (hr:dF h a (E.flatMap dQ)) :
  aC prog 60 [.slice a E.length c,.int .i64 id] h fun v h'=>h'=h∧((v=.int .i64 (-1)∧∀ p∈E,p.1≠id)∨∃ (i:Nat) (p:Int×List Nat),E[i]? = some p∧p.1=id∧v=.int .i64 (i:Int)):=by
 apply Ic.ap
 unfold MH
 refine aZ.upto E.length (fun i (s:Int) h'=>s=(i:Int)∧i≤E.length∧h'=h∧∀ p∈E.take i,p.1≠id) (fun s=>E.length - s.toNat) (fun i s h' hh=>⟨hh.2.1,by rw [hh.1]; omega⟩) ⟨rfl,au _,rfl,by simp⟩ ?_ ?_
 · rintro i s h2 again hi ⟨rfl,_,rfl,hno⟩ go;rw [af (show ((i:Int)<(E.length:Int)) by omega),ab];obtain ⟨p,hp⟩:∃ p,E[i]? = some p:=⟨_,ah (by omega)⟩
   refine ju hr rfl hp ?_;by_cases e:p.1=id
   · rw [jX e,ab];exact ⟨rfl,.inr ⟨i,p,hp,e,rfl⟩⟩
   · rw [iW e,aa,aK (by omega)];refine go _ _ ⟨rfl,by omega,rfl,fun q hq=>?_⟩;rw [ax,hp] at hq
     rcases List.mem_append.1 hq with hq | hq
     · exact hno q hq
     · simp at hq;rw [hq];exact e
 · rintro s h2 again ⟨rfl,_,rfl,hno⟩;rw [ae (by omega),aa];rw [ar (by omega)] at hno;exact ⟨rfl,.inl ⟨rfl,hno⟩⟩
end
def D9 (pre:ByteArray) (l_0:Option Addr) (n0:Int) (ag:Heap→Prop) (h_0:Heap) (Q:Value→Heap→Prop):Prop:=
 aS l_0 fun a3=>
  Ld h_0 (a3.add 0) fun v3=>DP v3 fun x2=>
  aS l_0 fun a4=>
  Ld h_0 (a4.add 1) fun v4=>DS v4 fun x3=>
  aC prog 57 [.int .i64 n0] h_0 fun r0 h_1=>
  DS r0 fun x4=>
  (aG (some (.pointer l_0)) (.pointer l_0))∧
  (aS l_0 fun a5=>
  aG (some (.pointer (some a3))) (.pointer (some a5)))∧
  (aG (some (.pointer (some (a3.add 0)))) (.pointer (some (a3.add 0))))∧
  (Ld h_1 (a3.add 0) fun v5=>DP v5 fun x5=>
  aG (some (.pointer x2)) (.pointer x5))∧
  (aG (some (.pointer l_0)) (.pointer l_0))∧
  (aS l_0 fun a6=>
  aG (some (.pointer (some a4))) (.pointer (some a6)))∧
  (aG (some (.pointer (some (a4.add 1)))) (.pointer (some (a4.add 1))))∧
  (Ld h_1 (a4.add 1) fun v6=>DS v6 fun x6=>
  aG (some (.string x3)) (.string x6))∧
  (pre:ByteArray).size+(x4:ByteArray).size≤9223372036854775807∧
  aC prog 81 [.pointer x2,.string x3,.string (pre++x4)] h_1 fun r1 h_2=>
  DI .i64 r1 fun e0=>
  (bif (e0:Int)!=0 then
   Q (.int .i64 e0) h_2
  else
   ag h_2)
def oP (upto but below:Int):Nat→Int→Bool:=fun c n=>if c=98 then (decide (n≤upto)||decide (n<below)) else ((decide (but≥0)&&decide (n≠but))||decide (n<below))
theorem zw {n:Int} (h:0≤n):oP n n (-1)=lj n:=by
 funext c x
 unfold oP lj
 by_cases hc:c=98
 · rw [al hc,al hc];by_cases hx:x≤n
   · simp [hx]
   · have:¬ x < -1:=by omega
     simp [hx,this]
 · rw [ak hc,ak hc,af (show n≥0 from h)];by_cases hx:x=n
   · have:¬ x < -1:=by omega
     simp [hx];omega
   · simp [hx]
namespace AF
theorem mt {α:Type} {dir:ByteArray} {c:Nat} {p q:Int→Bool}:∀ (l:List Int) (A:FS) (T:List (Int×α)) (s:Bool),(∀ n∈l,p n=q n)→fY dir c p l A T s=fY dir c q l A T s
 | [],A,T,s,_=>rfl
 | n::l,A,T,s,h=>by
   unfold fY;rw [h n (mem_cons_self ..)];split
   · split
     · exact mt l _ _ _ fun m hm=>h m (aB _ hm)
     · rfl
   · exact mt l _ _ _ fun m hm=>h m (aB _ hm)
theorem uk {M:bA} {A:FS} {p q:Nat→Int→Bool} (hS:∀ x∈M.S,p 98 x.1=q 98 x.1) (hF:∀ x∈M.Fo,p 102 x.1=q 102 x.1):M.remove A p=M.remove A q:=by
 unfold bA.remove
 have e1:∀ B T s,fY (α:=List Nat) M.dir 98 (p 98) (M.S.map (·.1)) B T s=fY M.dir 98 (q 98) (M.S.map (·.1)) B T s:=fun B T s=>mt _ _ _ _ fun n hn=>by
  obtain ⟨x,hx,rfl⟩:=List.mem_map.1 hn;exact hS x hx
 have e2:∀ B T s,fY (α:=Unit) M.dir 102 (p 102) (M.Fo.map (·.1)) B T s=fY M.dir 102 (q 102) (M.Fo.map (·.1)) B T s:=fun B T s=>mt _ _ _ _ fun n hn=>by
  obtain ⟨x,hx,rfl⟩:=List.mem_map.1 hn;exact hF x hx
 simp only [e1,e2]
end AF
section
variable {F:List aE} {h:Heap} {r m n:Nat} {M:bA} {A:AF.FS} {dir:ByteArray}
theorem sB {c:Nat} {pre:ByteArray} {n:Int} {d:ByteArray} {a1 a2 a3:Option Addr} {l1 c1 l2 c2 l3 c3:Nat} {ag:Heap→Prop} {Q:Value→Heap→Prop} (hpre:(c=98∧pre=⟨#[98,46]⟩)∨(c=102∧pre=⟨#[102,46]⟩)) (W:A.WF) (hs:A.steps<1099511627776)
  (H:aD (pt r (.cells (jh m d a1 l1 c1 a2 l2 c2 a3 l3 c3) 130 (0,0))::bp m A::F) h)
  (hbad:(A.remove d (cu c n)).2≠0→∀ h',aD (pt r (.cells (jh m d a1 l1 c1 a2 l2 c2 a3 l3 c3) 130 (0,0))::bp m (A.remove d (cu c n)).1::F) h'→Q (.int .i64 ((A.remove d (cu c n)).2:Int)) h')
  (hgo:(A.remove d (cu c n)).2=0→∀ h',aD (pt r (.cells (jh m d a1 l1 c1 a2 l2 c2 a3 l3 c3) 130 (0,0))::bp m (A.remove d (cu c n)).1::F) h'→ag h') :
  D9 pre (some ⟨r,0,none⟩) n ag h Q:=by
 unfold D9
 rw [aP]
 refine mK (x:=m) H rfl ?_
 rw [aP]
 refine bI (x:=d) H rfl ?_
 refine (l8 (n:=n) H).mono ?_
 rintro y h3 ⟨rfl,K3⟩
 rw [aW]
 have hp2:pre.size=2:=by rcases hpre with ⟨_,rfl⟩ | ⟨_,rfl⟩ <;> rfl
 have hnm:pre++bT (cU 16 (eY n))=cu c n:=by rcases hpre with ⟨rfl,rfl⟩ | ⟨rfl,rfl⟩ <;> rfl
 refine ⟨rfl,rfl,rfl,mK (x:=m) K3 rfl rfl,rfl,rfl,rfl,bI (x:=d) K3 rfl rfl,uv hp2,?_⟩
 rw [hnm]
 refine (oA (dir:=d) (name:=cu c n) W hs (K3.mv 1)).mono ?_
 rintro y h4 ⟨rfl,K4⟩
 rw [aJ]
 by_cases hr:(A.remove d (cu c n)).2=0
 · have hr2:((((A.remove d (cu c n)).2:Nat):Int)!=0)=false:=by rw [hr]; rfl
   rw [hr2,aa];exact hgo hr _ (K4.mv 1)
 · rw [bo hr,ab];exact hbad hr _ (K4.mv 1)
def uQ (r m:Nat) (q:AF.FS×bA×Nat) (F:List aE) (x:Value) (h':Heap):Prop:=
 x=.int .i64 ((q.2.2:Nat):Int)∧∃ M',aD (fh r m M'::bp m q.1::F) h'∧(M'=q.2.1∨lL q.2.2)
abbrev jC (M:bA) (A:AF.FS) (p:Nat→Int→Bool):AF.FS×fe×Bool×Nat:=fY M.dir 98 (p 98) (M.S.map (·.1)) A M.S false
abbrev mH (M:bA) (A:AF.FS) (p:Nat→Int→Bool):AF.FS×List (Int×Unit)×Bool×Nat:=fY M.dir 102 (p 102) (M.Fo.map (·.1)) (jC M A p).1 M.Fo (jC M A p).2.2.1
theorem vE {p:Nat→Int→Bool} (h:(jC M A p).2.2.2≠0):(M.remove A p).1=(jC M A p).1∧(M.remove A p).2.2=(jC M A p).2.2.2:=by
 unfold AF.bA.remove
 dsimp only
 rw [al h]
 exact ⟨rfl,rfl⟩
theorem vD {p:Nat→Int→Bool} (h1:(jC M A p).2.2.2=0) (h:(mH M A p).2.2.2≠0):(M.remove A p).1=(mH M A p).1∧(M.remove A p).2.2=(mH M A p).2.2.2:=by
 unfold AF.bA.remove
 dsimp only
 rw [ak (not_not_intro h1),al h]
 exact ⟨rfl,rfl⟩
theorem vC {p:Nat→Int→Bool} (h1:(jC M A p).2.2.2=0) (h:(mH M A p).2.2.2=0):M.remove A p=if (mH M A p).2.2.1=true then (((mH M A p).1.syncDir M.dir).1,{ M with S:=(jC M A p).2.1,Fo:=(mH M A p).2.1 },((mH M A p).1.syncDir M.dir).2) else ((mH M A p).1,{ M with S:=(jC M A p).2.1,Fo:=(mH M A p).2.1 },0):=by
 unfold AF.bA.remove
 dsimp only
 rw [ak (not_not_intro h1),ak (not_not_intro h)]
set_option maxHeartbeats 4000000 in
theorem wN {upto but below:Int} (W:A.WF) (hs:A.steps+M.S.length+M.Fo.length+20<1099511627776) (hS:M.S.length<100000000) (hF:M.Fo.length<100000000) (H:aD (fh r m M::bp m A::F) h) :
  aC prog 64 [aI r,.int .i64 upto,.int .i64 but,.int .i64 below] h (uQ r m (M.remove A (oP upto but below)) F):=by
 apply HY.ap
 unfold MD
 generalize hP:oP upto but below=P
 have hpS1:∀ x:Int,x≤upto→P 98 x=true:=fun x hx=>by rw [← hP]; show (decide (x≤upto)||decide (x<below))=true; simp [hx]
 have hpS2:∀ x:Int,¬ x≤upto→P 98 x=decide (x<below):=fun x hx=>by rw [← hP]; show (decide (x≤upto)||decide (x<below))=_; simp [hx]
 have hpF1:∀ x:Int,but≥0→x≠but→P 102 x=true:=fun x hb hx=>by rw [← hP]; show ((decide (but≥0)&&decide (x≠but))||decide (x<below))=true; simp [hx,hb]
 have hpF2:∀ x:Int,¬ (but≥0∧x≠but)→P 102 x=decide (x<below):=fun x hb=>by
  rw [← hP];show ((decide (but≥0)&&decide (x≠but))||decide (x<below))=_;by_cases h1:but≥0
  · by_cases h2:x=but
    · simp [h2]
    · exact absurd ⟨h1,h2⟩ hb
  · simp [h1]
 let St:Nat→AF.FS×fe×Bool×Nat:=fun i=>fY M.dir 98 (P 98) ((M.S.map (·.1)).take i) A M.S false
 have hStall:St M.S.length=jC M A P:=by
  show fY _ _ _ ((M.S.map (·.1)).take M.S.length) _ _ _=_;rw [ar (by rw [an]; exact av _)]
 have wfSt:∀ i,(St i).1.WF∧(St i).1.steps≤A.steps+i:=fun i=>by
  have:=AF.jZ (dir:=M.dir) (c:=98) (p:=P 98) ((M.S.map (·.1)).take i) A M.S false W;rw [aq] at this;exact ⟨this.1,Nat.le_trans (show (St i).1.steps≤_ from this.2) (by omega)⟩
 have bad1:∀ i,(St (i+1)).2.2.2≠0→jC M A P=St (i+1):=fun i hne=>by
  have e1:M.S.map (·.1)=(M.S.map (·.1)).take (i+1)++(M.S.map (·.1)).drop (i+1):=(take_append_drop ..).symm;show fY _ _ _ (M.S.map (·.1)) _ _ _=_
  conv=>lhs; rw [e1]
  exact AF.kw _ _ _ _ _ hne
 let K1:Nat→fe:=fun i=>(M.S.take i).filter fun q => !(P 98 q.1)
 have klen:∀ i,(K1 i).length≤M.S.length:=fun i=>Nat.le_trans (length_filter_le _ _) (by rw [aq]; omega)
 obtain ⟨a1,c1,a2,c2,a3,c3,H0⟩:=eh H
 refine aZ.upto M.S.length (fun i (s:Bool×Sl×Int) h'=>s.2.2=(i:Int)∧i≤M.S.length∧(St i).2.2.2=0∧s.1=(St i).2.2.1∧s.2.1.l=(K1 i).length∧aD (aL 137 2 s.2.1.a (K1 i).length s.2.1.c ((K1 i).flatMap dQ)::pt r (.cells (jh m M.dir a1 M.S.length c1 a2 M.Fo.length c2 a3 M.D.length c3) 130 (0,0))::aL 137 2 a1 M.S.length c1 (M.S.flatMap dQ)::aL 2 1 a2 M.Fo.length c2 (uz M.Fo)::aL 137 2 a3 M.D.length c3 (M.D.flatMap dQ)::bp m (St i).1::F) h') (fun s=>M.S.length - s.2.2.toNat) (fun i s h' hh=>⟨hh.2.1,by rw [hh.1]; omega⟩)
  ⟨rfl,au _,rfl,rfl,rfl,bE 137 2 H0⟩ ?_ ?_
 · rintro i ⟨sb0,⟨oa,ol,oc⟩,s3⟩ h2 again hi ⟨rfl,_,herr,rfl,rfl,K⟩ go;dsimp only at K ⊢;obtain ⟨x,hx⟩:∃ x,M.S[i]? = some x:=⟨_,ah hi⟩
   have hni:(M.S.map (·.1))[i]? = some x.1:=by rw [getElem?_map,hx]; rfl
   have hst:St (i+1)=fY M.dir 98 (P 98) [x.1] (St i).1 (St i).2.1 (St i).2.2.1:=by
    show fY _ _ _ ((M.S.map (·.1)).take (i+1)) _ _ _=_;rw [ax,hni];exact AF.kv _ _ _ _ _ herr
   have hk:=o9 (p:=P 98) hx;have hw:wrap .i64 ((i:Int)+1)=((i+1:Nat):Int):=aK (by omega);obtain ⟨Wi,hsi⟩:=wfSt i;rw [hw];rw [aP];refine bH (K.mv 1) rfl ?_;rw [af (show ((i:Int)<(M.S.length:Int)) by omega),ab,aP];refine bH (K.mv 1) rfl ?_;refine ju (aH (K.mv 2)) rfl hx ?_;have rem:P 98 x.1=true→D9 ⟨#[98,46]⟩ (some ⟨r,0,none⟩) x.1 (fun hh=>again (true,⟨oa,(K1 i).length,oc⟩,((i+1:Nat):Int)) hh) h2 (uQ r m (M.remove A P) F):=fun hp=>by
    have e:K1 (i+1)=K1 i:=by
     show (M.S.take (i+1)).filter _=_;rw [hk,al hp]
    refine sB (c:=98) (.inl ⟨rfl,rfl⟩) Wi (by omega) (K.ordT 6 [1,5,0,2,3,4]) (fun hr h4 K4=>?_) (fun hr h4 K4=>?_)
    · have hst2:St (i+1)=(((St i).1.remove M.dir (cu 98 x.1)).1,(St i).2.1,(St i).2.2.1,((St i).1.remove M.dir (cu 98 x.1)).2):=by
       rw [hst];exact AF.pL hp hr
      have hb:=bad1 i (by rw [hst2]; exact hr);obtain ⟨e1,e2⟩:=vE (M:=M) (A:=A) (p:=P) (by rw [hb,hst2]; exact hr);rw [hb,hst2] at e1 e2;dsimp only at e1 e2;refine ⟨by rw [e2],M,?_,.inr (by rw [e2]; exact AF.m6 hr)⟩;rw [e1];exact dI (K4.ordT 6 [0,3,4,5,1])
    · have hst2:St (i+1)=(((St i).1.remove M.dir (cu 98 x.1)).1,ru x.1 (St i).2.1,true,0):=by
       rw [hst,AF.ob hp hr]
       rfl
      refine go _ _ ⟨rfl,by omega,by rw [hst2],by rw [hst2],by rw [e],?_⟩;rw [hst2,e];exact K4.ordT 6 [2,0,3,4,5,1]
   by_cases hup:x.1≤upto
   · rw [af hup,ab];exact rem (hpS1 _ hup)
   rw [ae hup,aa];have hp2:=hpS2 _ hup;by_cases hbe:x.1<below
   · rw [af hbe,ab];exact rem (by rw [hp2]; simpa using hbe)
   rw [ae hbe,aa,aP];refine bH (K.mv 1) rfl ?_;refine kX (aH (K.mv 2)) rfl hx ?_;refine gX (n:=x.1) (x:=x.2) rfl rfl (by have:=klen i; omega) K fun a' c' h3 K3=>?_;rw [aF];have hp:¬ P 98 x.1=true:=by rw [hp2]; simpa using hbe
   have hst2:St (i+1)=St i:=by
    rw [hst,AF.n9 hp];show ((St i).1,(St i).2.1,(St i).2.2.1,0)=St i;rw [← herr]
   have e:K1 (i+1)=K1 i++[(x.1,x.2)]:=by
    show (M.S.take (i+1)).filter _=_;rw [hk,ak hp]
   refine go _ _ ⟨rfl,by omega,by rw [hst2]; exact herr,by rw [hst2],by rw [e],?_⟩;rw [hst2,e];exact K3
 · rintro ⟨sb0,⟨oa,ol,oc⟩,s3⟩ h2 again ⟨rfl,_,herr,rfl,rfl,K⟩;dsimp only at K ⊢;obtain ⟨W1,hs1⟩:=wfSt M.S.length;rw [aP];refine bH (K.mv 1) rfl ?_;rw [ae (by omega),aa];have hK1:K1 M.S.length=(St M.S.length).2.1:=by
    rw [hStall] at herr ⊢;rw [AF.jp _ _ _ _ herr];refine Eq.trans ?_ (q4 (D:=M.S) (p:=P 98)).symm;show (M.S.take M.S.length).filter _=_;rw [take_length]
   rw [hK1] at K ⊢;have herr0:=herr;rw [hStall] at herr0;have g1:St M.S.length=jC M A P:=hStall;rw [hStall] at K W1 hs1 herr ⊢;clear bad1 wfSt hK1
   let Su:Nat→AF.FS×List (Int×Unit)×Bool×Nat:=fun i=>fY M.dir 102 (P 102) ((M.Fo.map (·.1)).take i) (jC M A P).1 M.Fo (jC M A P).2.2.1
   have hSuall:Su M.Fo.length=mH M A P:=by
    show fY _ _ _ ((M.Fo.map (·.1)).take M.Fo.length) _ _ _=_;rw [ar (by rw [an]; exact av _)]
   have wfSu:∀ i,(Su i).1.WF∧(Su i).1.steps≤(jC M A P).1.steps+i:=fun i=>by
    have:=AF.jZ (dir:=M.dir) (c:=102) (p:=P 102) ((M.Fo.map (·.1)).take i) (jC M A P).1 M.Fo (jC M A P).2.2.1 W1;rw [aq] at this;exact ⟨this.1,Nat.le_trans (show (Su i).1.steps≤_ from this.2) (by omega)⟩
   have bad2:∀ i,(Su (i+1)).2.2.2≠0→mH M A P=Su (i+1):=fun i hne=>by
    have e1:M.Fo.map (·.1)=(M.Fo.map (·.1)).take (i+1)++(M.Fo.map (·.1)).drop (i+1):=(take_append_drop ..).symm;show fY _ _ _ (M.Fo.map (·.1)) _ _ _=_
    conv=>lhs; rw [e1]
    exact AF.kw _ _ _ _ _ hne
   let K2:Nat→List (Int×Unit):=fun i=>(M.Fo.take i).filter fun q => !(P 102 q.1)
   have klen2:∀ i,(K2 i).length≤M.Fo.length:=fun i=>Nat.le_trans (length_filter_le _ _) (by rw [aq]; omega);have hS1:(jC M A P).2.1.length≤M.S.length:=by
    rw [AF.jp _ _ _ _ herr0];exact length_filter_le _ _
   refine aZ.upto M.Fo.length (fun i (s:Bool×Sl×Int) h'=>s.2.2=(i:Int)∧i≤M.Fo.length∧(Su i).2.2.2=0∧s.1=(Su i).2.2.1∧s.2.1.l=(K2 i).length∧aD (aL 2 1 s.2.1.a (K2 i).length s.2.1.c (uz (K2 i))::aL 137 2 oa (jC M A P).2.1.length oc ((jC M A P).2.1.flatMap dQ)::pt r (.cells (jh m M.dir a1 M.S.length c1 a2 M.Fo.length c2 a3 M.D.length c3) 130 (0,0))::aL 137 2 a1 M.S.length c1 (M.S.flatMap dQ)::aL 2 1 a2 M.Fo.length c2 (uz M.Fo)::aL 137 2 a3 M.D.length c3 (M.D.flatMap dQ)::bp m (Su i).1::F) h') (fun s=>M.Fo.length - s.2.2.toNat) (fun i s h' hh=>⟨hh.2.1,by rw [hh.1]; omega⟩)
    ⟨rfl,au _,rfl,rfl,rfl,bE 2 1 K⟩ ?_ ?_
   · rintro i ⟨sb1,⟨ua,ul,uc⟩,s3⟩ h3 again1 hi ⟨rfl,_,herr1,rfl,rfl,K⟩ go;dsimp only at K ⊢;obtain ⟨x,hx⟩:∃ x,M.Fo[i]? = some x:=⟨_,ah hi⟩
     have hni:(M.Fo.map (·.1))[i]? = some x.1:=by rw [getElem?_map,hx]; rfl
     have hst:Su (i+1)=fY M.dir 102 (P 102) [x.1] (Su i).1 (Su i).2.1 (Su i).2.2.1:=by
      show fY _ _ _ ((M.Fo.map (·.1)).take (i+1)) _ _ _=_;rw [ax,hni];exact AF.kv _ _ _ _ _ herr1
     have hk:=o9 (p:=P 102) hx;have hw:wrap .i64 ((i:Int)+1)=((i+1:Nat):Int):=aK (by omega);obtain ⟨Wi,hsi⟩:=wfSu i;rw [hw];rw [aP];refine bH (K.mv 2) rfl ?_;rw [af (show ((i:Int)<(M.Fo.length:Int)) by omega),ab,aP];refine bH (K.mv 2) rfl ?_;refine mp (aH (K.mv 4)) rfl hx ?_;have rem:P 102 x.1=true→D9 ⟨#[102,46]⟩ (some ⟨r,0,none⟩) x.1 (fun hh=>again1 (true,⟨ua,(K2 i).length,uc⟩,((i+1:Nat):Int)) hh) h3 (uQ r m (M.remove A P) F):=fun hp=>by
      have e:K2 (i+1)=K2 i:=by
       show (M.Fo.take (i+1)).filter _=_;rw [hk,al hp]
      refine sB (c:=102) (.inr ⟨rfl,rfl⟩) Wi (by omega) (K.ordT 7 [2,6,0,1,3,4,5]) (fun hr h4 K4=>?_) (fun hr h4 K4=>?_)
      · have hst2:Su (i+1)=(((Su i).1.remove M.dir (cu 102 x.1)).1,(Su i).2.1,(Su i).2.2.1,((Su i).1.remove M.dir (cu 102 x.1)).2):=by
         rw [hst];exact AF.pL hp hr
        have hb:=bad2 i (by rw [hst2]; exact hr);obtain ⟨e1,e2⟩:=vD (M:=M) (A:=A) (p:=P) herr0 (by rw [hb,hst2]; exact hr);rw [hb,hst2] at e1 e2;dsimp only at e1 e2;refine ⟨by rw [e2],M,?_,.inr (by rw [e2]; exact AF.m6 hr)⟩;rw [e1];exact dI (K4.ordT 7 [0,4,5,6,1])
      · have hst2:Su (i+1)=(((Su i).1.remove M.dir (cu 102 x.1)).1,ru x.1 (Su i).2.1,true,0):=by
         rw [hst,AF.ob hp hr]
         rfl
        refine go _ _ ⟨rfl,by omega,by rw [hst2],by rw [hst2],by rw [e],?_⟩;rw [hst2,e];exact K4.ordT 7 [2,3,0,4,5,6,1]
     have keep:¬ P 102 x.1=true→Al h3 (.cells #[.int .i64 x.1] 2) fun b1 h_12=>
      aX prog (append_ #[128,128] 128 #[.slice ua (K2 i).length uc,.slice (some (Addr.mk b1 0 none)) 1 1]) h_12 fun r11 h_13=>
      aT r11 fun folds0a folds0l folds0c=>again1 ((Su i).2.2.1,⟨folds0a,folds0l,folds0c⟩,((i+1:Nat):Int)) h_13:=fun hp=>by
      refine qb rfl (by have:=klen2 i; omega) K fun a' c' h4 K3=>?_;rw [aF];have hst2:Su (i+1)=Su i:=by
       rw [hst,AF.n9 hp];show ((Su i).1,(Su i).2.1,(Su i).2.2.1,0)=Su i;rw [← herr1]
      have e:K2 (i+1)=K2 i++[(x.1,())]:=by
       show (M.Fo.take (i+1)).filter _=_;rw [hk,ak hp]
      refine go _ _ ⟨rfl,by omega,by rw [hst2]; exact herr1,by rw [hst2],by rw [e],?_⟩;rw [hst2,e];exact K3
     by_cases hbut:but≥0
     · rw [af hbut,ab];by_cases hne:x.1=but
       · rw [show (x.1 !=but)=false from by rw [hne]; exact bne_self_eq_false _,aa];have hp2:=hpF2 x.1 (fun hh=>hh.2 hne);by_cases hbe:x.1<below
         · rw [af hbe,ab];exact rem (by rw [hp2]; simpa using hbe)
         · rw [ae hbe,aa];exact keep (by rw [hp2]; simpa using hbe)
       · rw [show (x.1 !=but)=true from by rw [bne_iff_ne]; exact hne,ab];exact rem (hpF1 _ hbut hne)
     · rw [ae hbut,aa];have hp2:=hpF2 x.1 (fun hh=>hbut hh.1);by_cases hbe:x.1<below
       · rw [af hbe,ab];exact rem (by rw [hp2]; simpa using hbe)
       · rw [ae hbe,aa];exact keep (by rw [hp2]; simpa using hbe)
   · rintro ⟨sb1,⟨ua,ul,uc⟩,s3⟩ h3 again1 ⟨rfl,_,herr1,rfl,rfl,K⟩;dsimp only at K ⊢;obtain ⟨W2,hs2⟩:=wfSu M.Fo.length;rw [aP];refine bH (K.mv 2) rfl ?_;rw [ae (by omega),aa];have hK2:K2 M.Fo.length=(Su M.Fo.length).2.1:=by
      rw [hSuall] at herr1 ⊢;rw [AF.jp _ _ _ _ herr1];refine Eq.trans ?_ (q4 (D:=M.Fo) (p:=P 102)).symm;show (M.Fo.take M.Fo.length).filter _=_;rw [take_length]
     rw [hK2] at K ⊢;rw [hSuall] at K W2 hs2 herr1 ⊢;have hg:=vC (M:=M) (A:=A) (p:=P) herr0 herr1;rw [aP];refine bQ (K.mv 2) (show 2<5 by decide) rfl fun h4 K4=>?_;rw [aP];refine bQ K4 (show 3<5 by decide) rfl fun h5 K5=>?_;have K6:aD (fh r m { M with S:=(jC M A P).2.1,Fo:=(mH M A P).2.1 }::bp m (mH M A P).1::F) h5:=dI (M:={ M with S:=(jC M A P).2.1,Fo:=(mH M A P).2.1 }) (K5.ordT 7 [0,2,1,5,6]);rw [hg]
     cases hfl:(mH M A P).2.2.1 with
     | false=>
       rw [aa,ak (by decide)];exact ⟨rfl,_,K6,.inl rfl⟩
     | true=>
       rw [ab,al rfl,aP];obtain ⟨b1,d1,b2,d2,b3,d3,K7⟩:=eh K6;refine mK (x:=m) K7 rfl ?_;rw [aP];refine bI (x:=M.dir) K7 rfl ?_;refine (oB (dir:=M.dir) W2 (by omega) (K6.mv 1)).mono ?_;rintro y h6 ⟨rfl,K8⟩;rw [aJ];exact ⟨rfl,_,K8.mv 1,.inl rfl⟩
theorem C7 {n:Nat} {below:Int} (O:jT n M) (W:A.WF) (hs:A.steps+M.S.length+M.Fo.length+20<1099511627776) (hS:M.S.length<100000000) (hF:M.Fo.length<100000000) (H:aD (fh r m M::bp m A::F) h) :
  aC prog 26 [aI r,.int .i64 below] h (uQ r m (M.purge A below) F):=by
 have e0:M.purge A below=if bm (M.remove A (oP (-1) (-1) below)).2.1.Fo<0 then ((M.remove A (oP (-1) (-1) below)).1,{ (M.remove A (oP (-1) (-1) below)).2.1 with D:=[] },(M.remove A (oP (-1) (-1) below)).2.2) else M.remove A (oP (-1) (-1) below):=by
  have:M.remove A (oP (-1) (-1) below)=M.remove A fun _ n=>decide (n<below):=by
   refine AF.uk (fun x hx=>?_) (fun x hx=>?_)
   · have:=(O.okS x hx).1.1;show (decide (x.1 ≤ -1)||decide (x.1<below))=_;rw [ae (show ¬ x.1 ≤ -1 by omega),Bool.false_or]
   · show ((decide ((-1:Int)≥0)&&decide (x.1 ≠ -1))||decide (x.1<below))=_;rw [show decide ((-1:Int)≥0)=false from rfl,Bool.false_and,Bool.false_or]
  rw [this]
  rfl
 have hc:=kM M A (oP (-1) (-1) below)
 have hk:∀ q∈(M.left (oP (-1) (-1) below)).Fo,0≤q.1:=fun q hq=>(O.okF q ((filter_sublist (l:=M.Fo)).subset hq)).1
 apply IF.ap
 unfold Nf
 refine (wN W hs hS hF H).mono ?_
 rw [e0]
 generalize M.remove A (oP (-1) (-1) below)=q at *
 rintro v h1 ⟨rfl,M',H1,hM⟩
 rw [aJ]
 obtain ⟨a1,c1,a2,c2,a3,c3,K⟩:=eh H1
 rw [aP]
 refine bH K rfl ?_
 have eq3:(if bm q.2.1.Fo<0 then (q.1,{ q.2.1 with D:=[] },q.2.2) else q).1=q.1:=by split <;> rfl
 have eq4:(if bm q.2.1.Fo<0 then (q.1,{ q.2.1 with D:=[] },q.2.2) else q).2.2=q.2.2:=by split <;> rfl
 unfold uQ
 rw [eq3,eq4]
 by_cases hl:M'.Fo.length=0
 · rw [jX (show ((M'.Fo.length:Nat):Int)=0 by omega),ab,aP];refine bQ (c':=jh m M'.dir a1 M'.S.length c1 a2 M'.Fo.length c2 none 0 0) K (show 4<5 by decide) rfl fun h2 K2=>?_;have K3:=bE 137 2 K2;refine ⟨rfl,{ M' with D:=[] },dI (M:={ M' with D:=[] }) (K3.ordT 6 [1,2,3,0,5]),?_⟩
   rcases hM with rfl | hh
   · left;rw [al (by rw [List.length_eq_zero_iff.1 hl]; exact Int.negSucc_lt_zero 0)]
   · exact .inr hh
 · rw [iW (show ¬ ((M'.Fo.length:Nat):Int)=0 by omega),aa];refine ⟨rfl,M',H1,?_⟩
   rcases hM with rfl | hh
   · rcases hc with hc | hc
     · exact .inr hc
     · left;rw [ak];intro hneg;rw [hc] at hneg hl;have:=(AF.qm hk).1 hneg;rw [this] at hl;exact hl rfl
   · exact .inr hh
end
def xJ (l_0:Option Addr) (n0:Int) (sa:Option Addr) (sl sc:Nat) (pa:Option Addr) (pl pc:Nat) (h_2:Heap) (Q:Value→Heap→Prop):Prop:=
 aC prog 63 [.slice pa pl pc] h_2 fun r7 h_8=>
  ∃ (x14:ByteArray),∃ (x15:Int),r7=.tuple #[.string x14,.int .i64 x15]∧
  (bif (x15:Int)!=0 then
   Q (.int .i64 x15) h_8
  else
   aS l_0 fun a12=>
   Ld h_8 (a12.add 0) fun v11=>DP v11 fun x16=>
   aS l_0 fun a13=>
   Ld h_8 (a13.add 1) fun v12=>DS v12 fun x17=>
   aC prog 57 [.int .i64 n0] h_8 fun r8 h_9=>
   DS r8 fun x18=>
   (aG (some (.pointer l_0)) (.pointer l_0))∧
   (aS l_0 fun a14=>
   aG (some (.pointer (some a12))) (.pointer (some a14)))∧
   (aG (some (.pointer (some (a12.add 0)))) (.pointer (some (a12.add 0))))∧
   (Ld h_9 (a12.add 0) fun v13=>DP v13 fun x19=>
   aG (some (.pointer x16)) (.pointer x19))∧
   (aG (some (.pointer l_0)) (.pointer l_0))∧
   (aS l_0 fun a15=>
   aG (some (.pointer (some a13))) (.pointer (some a15)))∧
   (aG (some (.pointer (some (a13.add 1)))) (.pointer (some (a13.add 1))))∧
   (Ld h_9 (a13.add 1) fun v14=>DS v14 fun x20=>
   aG (some (.string x17)) (.string x20))∧
   (aG (some (.string x14)) (.string x14))∧
   (⟨#[102,46]⟩:ByteArray).size+(x18:ByteArray).size≤9223372036854775807∧
   aC prog 61 [.pointer x16,.string x17,.string (⟨#[102,46]⟩++x18),.string x14] h_9 fun r9 h_10=>
   DI .i64 r9 fun e0=>
   (bif (e0:Int)!=0 then
    Q (.int .i64 e0) h_10
   else
    aZ (fun again1 (s1:Sl×Int) h_11=>
     aS l_0 fun a16=>
     Ld h_11 (a16.add 3) fun v15=>aT v15 fun x21a x21l x21c=>
     (bif decide ((s1.2:Int)<(x21l:Int)) then
      aS l_0 fun a17=>
      Ld h_11 (a17.add 3) fun v16=>aT v16 fun x22a x22l x22c=>
      aR x22a x22l s1.2 1 fun a18=>
      Ld h_11 a18 fun v17=>DI .i64 v17 fun x23=>
      (bif (x23:Int)!=n0 then
       aS l_0 fun a19=>
       Ld h_11 (a19.add 3) fun v18=>aT v18 fun x24a x24l x24c=>
       aR x24a x24l s1.2 1 fun a20=>
       Ld h_11 a20 fun v19=>DI .i64 v19 fun x25=>
       Al h_11 (.cells #[.int .i64 x25] 2) fun b2 h_12=>
       aX prog (append_ #[128,128] 128 #[.slice s1.1.a s1.1.l s1.1.c,.slice (some (Addr.mk b2 0 none)) 1 1]) h_12 fun r11 h_13=>
       aT r11 fun folds0a folds0l folds0c=>
       again1 (⟨folds0a,folds0l,folds0c⟩,wrap .i64 (s1.2+1)) h_13
      else
       again1 (⟨s1.1.a,s1.1.l,s1.1.c⟩,wrap .i64 (s1.2+1)) h_11)
     else
      Al h_11 (.cells #[.int .i64 n0] 2) fun b3 h_14=>
      aX prog (append_ #[128,128] 128 #[.slice s1.1.a s1.1.l s1.1.c,.slice (some (Addr.mk b3 0 none)) 1 1]) h_14 fun r13 h_15=>
      aT r13 fun x26a x26l x26c=>
      aS l_0 fun a21=>
      bz h_15 ((a21.add 3).add 0) (.slice x26a x26l x26c) fun h_17=>
      aS l_0 fun a22=>
      bz h_17 ((a22.add 4).add 0) (.slice sa sl sc) fun h_19=>
      aC prog 64 [.pointer l_0,.int .i64 n0,.int .i64 n0,.int .i64 (-1)] h_19 fun r16 h_20=>
      DI .i64 r16 fun x27=>
      Q (.int .i64 x27) h_20)) (⟨none,0,0⟩,0) h_10))
theorem sr {α:Type} {v:Int} {x0:α} {x:Int×α}:∀ {D:List (Int×α)},(∃ p∈D,v<p.1)→bR v x0 (D++[x])=bR v x0 D++[x]
 | [],h=>by obtain ⟨p,hp,_⟩:=h; cases hp
 | p::D,h=>by
   rw [cons_append];unfold bR;by_cases e:p.1=v
   · rw [al e,al e]
     rfl
   · rw [ak e,ak e];by_cases hlt:v<p.1
     · rw [al hlt,al hlt]
       rfl
     · rw [ak hlt,ak hlt];obtain ⟨q,hq,hqv⟩:=h
       rcases ay.1 hq with rfl | hq
       · exact absurd hqv hlt
       · rw [sr ⟨q,hq,hqv⟩]
         rfl
theorem AF.copy_len {α:Type}:∀ (D T:List (Int×α)),(dq T D).length≤T.length+D.length
 | [],T=>av _
 | p::D,T=>by
   have h1:=AF.copy_len D (bR p.1 p.2 T);have h2:=(AF.eS p.1 p.2 T).1;have e:dq T (p::D)=dq (bR p.1 p.2 T) D:=rfl;rw [e,ao];omega
theorem vw {α:Type} {v:Int} {x0:α} {p:Int×α}:∀ {E:List (Int×α)},(∀ q∈E,q.1<v)→v<p.1→bR v x0 (E++[p])=E++[(v,x0)]++[p]
 | [],_,h=>by
   rw [nil_append];unfold bR;rw [ak (by omega),al h]
   rfl
 | q::E,hE,h=>by
   have hq:=hE q (mem_cons_self ..);rw [cons_append];unfold bR;rw [ak (by omega),ak (by omega),vw (fun x hx=>hE x (aB _ hx)) h]
   rfl
section
variable {F:List aE} {h:Heap} {r m n:Nat} {M:bA} {A:AF.FS} {dir:ByteArray}
set_option maxHeartbeats 2000000 in
theorem C9 {id:Int} {s:ByteArray} (O:jT n M) (hn:n≤100000) (W:A.WF) (hs:A.steps+20<1099511627776) (hm:A.files.length+20<1099511627776) (hz:s.size<4611686018427387904) (H:aD (fh r m M::bp m A::F) h) :
  aC prog 24 [aI r,.int .i64 id,.string s] h fun v h'=>v=.int .i64 (((M.put A id (sb s)).2.2:Nat):Int)∧aD (fh r m (M.put A id (sb s)).2.1::bp m (M.put A id (sb s)).1::F) h':=by
 apply IH.ap
 unfold Nh
 unfold AF.bA.put
 by_cases h0:id<0
 · rw [af h0,ab,al (.inl h0)];exact ⟨rfl,H⟩
 rw [ae h0,aa]
 by_cases h40:1099511627776<id
 · rw [af (show id>1099511627776 from h40),ab,al (.inr h40)];exact ⟨rfl,H⟩
 rw [ae (show ¬ id>1099511627776 from h40),aa,ak (by omega)]
 have hSl:=O.lenS
 have hDl:M.D.length<100000000:=by
  have h1:=jD M.D;have h2:=O.wtD;omega
 refine (rI O.upD O.upS hDl (by omega) H).mono ?_
 rintro v h1 ⟨ea,ec,rfl,H1⟩
 rw [aF]
 have hEl:M.entries.length<100000000000:=by
  have h1:=jD M.entries;have h2:=qh M.D M.S;have h3:=tW (w:=16777216) M.S fun p hp=>(O.okS p hp).2.2;have h4:M.S.length*(40+16777216)≤100000*(40+16777216):=Nat.mul_le_mul_right _ (by omega);have h5:=O.wtD;have e:M.entries=dq M.S M.D:=rfl;rw [e] at h1 ⊢;omega
 refine (CQ (id:=id) hEl (aH H1)).mono ?_
 rintro v h2 ⟨rfl,⟨rfl,hno⟩ | ⟨i,p,hp,hpid,rfl⟩⟩
 rotate_left
 · have hg:M.get id=some p.2:=by
    rw [← O.getE];have:=cZ O.upE (k:=p.1) (x:=p.2) (ai hp);rw [hpid] at this;exact this
   rw [aJ,af (show ((i:Int)≥0) by omega),ab,hg];dsimp only;refine Hh (aH H1) rfl hp ?_;rw [fZ,bM (O.get hg).1];by_cases heq:p.2=sb s
   · rw [af heq,az,aa,al heq];exact ⟨rfl,H1.drop⟩
   · rw [ae heq,aA,ab,ak heq];exact ⟨rfl,H1.drop⟩
 have hg:M.get id=none:=by
  rw [← O.getE];exact ij.2 hno
 rw [aJ,show decide ((-1:Int)≥0)=false from rfl,aa,hg]
 dsimp only
 obtain ⟨a1,c1,a2,c2,a3,c3,K⟩:=eh (H1.mv 1)
 rw [aP]
 refine mK (x:=m) K rfl ?_
 rw [aP]
 refine bI (x:=M.dir) K rfl ?_
 refine (l8 (n:=id) K).mono ?_
 rintro y h3 ⟨rfl,K3⟩
 rw [aW]
 refine ⟨rfl,rfl,rfl,mK (x:=m) K3 rfl rfl,rfl,rfl,rfl,bI (x:=M.dir) K3 rfl rfl,rfl,uv rfl,?_⟩
 rw [show (⟨#[98,46]⟩:ByteArray)++bT (cU 16 (eY id))=cu 98 id from rfl]
 refine (wO (dir:=M.dir) (name:=cu 98 id) (b:=s) W hs hm hz (K3.mv 5)).mono ?_
 rintro y h4 ⟨rfl,K4⟩
 rw [aJ]
 generalize hq:A.put M.dir (cu 98 id) (sb s)=q at K4 ⊢
 by_cases he:q.2=0
 rotate_left
 · rw [bo he,ab,ak he];exact ⟨rfl,dI (K4.ordT 6 [1,2,3,4,0])⟩
 have he2:(((q.2:Nat):Int)!=0)=false:=by rw [he]; rfl
 rw [he2,aa,al he]
 have hne:∀ p∈M.S,p.1≠id:=by
  have:cg M.S id=none:=by
   rcases AF.pe (M:=M) (id:=id) with ⟨_,_,h3⟩ | ⟨x,hx,_⟩
   · exact h3
   · rw [hg] at hx; cases hx
  exact ij.1 this
 have hso:s=bT (sb s):=(uu s).symm
 have K5:=K4.ordT 6 [1,2,3,4,0]
 refine aZ.upto M.S.length (fun i (st:Sl×Bool×Int) h'=>st.2.2=(i:Int)∧i≤M.S.length∧((st.2.1=false∧(∀ p∈M.S.take i,p.1<id)∧st.1.l=(M.S.take i).length∧aD (aL 137 2 st.1.a (M.S.take i).length st.1.c ((M.S.take i).flatMap dQ)::pt r (.cells (jh m M.dir a1 M.S.length c1 a2 M.Fo.length c2 a3 M.D.length c3) 130 (0,0))::aL 137 2 a1 M.S.length c1 (M.S.flatMap dQ)::aL 2 1 a2 M.Fo.length c2 (uz M.Fo)::aL 137 2 a3 M.D.length c3 (M.D.flatMap dQ)::bp m q.1::F) h')∨
   (st.2.1=true∧(∃ p∈M.S.take i,id<p.1)∧st.1.l=(bR id (sb s) (M.S.take i)).length∧aD (aL 137 2 st.1.a (bR id (sb s) (M.S.take i)).length st.1.c ((bR id (sb s) (M.S.take i)).flatMap dQ)::pt r (.cells (jh m M.dir a1 M.S.length c1 a2 M.Fo.length c2 a3 M.D.length c3) 130 (0,0))::aL 137 2 a1 M.S.length c1 (M.S.flatMap dQ)::aL 2 1 a2 M.Fo.length c2 (uz M.Fo)::aL 137 2 a3 M.D.length c3 (M.D.flatMap dQ)::bp m q.1::F) h'))) (fun st=>M.S.length - st.2.2.toNat) (fun i st h' hh=>⟨hh.2.1,by rw [hh.1]; omega⟩)
  ⟨rfl,au _,.inl ⟨rfl,by simp,rfl,bE 137 2 K5⟩⟩ ?_ ?_
 · rintro i ⟨⟨oa,ol,oc⟩,dn,s3⟩ h5 again hi ⟨rfl,_,hcase⟩ go;dsimp only at hcase ⊢;obtain ⟨p,hp⟩:∃ p,M.S[i]? = some p:=⟨_,ah hi⟩
   have htk:M.S.take (i+1)=M.S.take i++[p]:=by rw [ax,hp]; rfl
   have hw:wrap .i64 ((i:Int)+1)=((i+1:Nat):Int):=aK (by omega);have htl:(M.S.take i).length≤i:=by rw [aq]; omega
   rw [hw,aP]
   rcases hcase with ⟨rfl,hall,rfl,K⟩ | ⟨rfl,hex,rfl,K⟩
   · refine bH (K.mv 1) rfl ?_;rw [af (show ((i:Int)<(M.S.length:Int)) by omega),ab,aA,ab,aP];refine bH (K.mv 1) rfl ?_;refine ju (aH (K.mv 2)) rfl hp ?_;by_cases hgt:id<p.1
     · rw [af (show p.1>id from hgt),ab];refine gX (n:=id) hso rfl (by omega) K fun a' c' h6 K2=>?_;rw [aF,aP];refine bH (K2.mv 1) rfl ?_;refine kX (aH (K2.mv 2)) rfl hp ?_;refine gX (n:=p.1) (x:=p.2) rfl rfl (by rw [am]; simp; omega) K2 fun a'' c'' h7 K3=>?_;rw [aF];have e:bR id (sb s) (M.S.take (i+1))=M.S.take i++[(id,sb s)]++[(p.1,p.2)]:=by rw [htk,vw hall hgt]
       refine go _ _ ⟨rfl,by omega,.inr ⟨rfl,⟨p,by rw [htk]; simp,hgt⟩,?_,?_⟩⟩
       · rw [e]
       · rw [e];exact K3
     · rw [ae (show ¬ p.1>id from hgt),aa,aP];refine bH (K.mv 1) rfl ?_;refine kX (aH (K.mv 2)) rfl hp ?_;refine gX (n:=p.1) (x:=p.2) rfl rfl (by omega) K fun a' c' h6 K2=>?_;rw [aF];have e:M.S.take (i+1)=M.S.take i++[(p.1,p.2)]:=htk;refine go _ _ ⟨rfl,by omega,.inl ⟨rfl,fun q hq=>?_,?_,?_⟩⟩
       · rw [htk] at hq
         rcases List.mem_append.1 hq with hq | hq
         · exact hall q hq
         · rw [List.mem_singleton.1 hq];have:=hne p (ai hp);omega
       · rw [e]
       · rw [e];exact K2
   · refine bH (K.mv 1) rfl ?_;rw [af (show ((i:Int)<(M.S.length:Int)) by omega),ab,az,aa,aP];refine bH (K.mv 1) rfl ?_;refine kX (aH (K.mv 2)) rfl hp ?_;have hsl:=(AF.eS id (sb s) (M.S.take i)).1;refine gX (n:=p.1) (x:=p.2) rfl rfl (by omega) K fun a' c' h6 K2=>?_;rw [aF];have e:bR id (sb s) (M.S.take (i+1))=bR id (sb s) (M.S.take i)++[(p.1,p.2)]:=by rw [htk,sr hex]
     refine go _ _ ⟨rfl,by omega,.inr ⟨rfl,?_,?_,?_⟩⟩
     · obtain ⟨q,hq,hqv⟩:=hex;exact ⟨q,by rw [htk]; exact List.mem_append_left _ hq,hqv⟩
     · rw [e]
     · rw [e];exact K2
 · rintro ⟨⟨oa,ol,oc⟩,dn,s3⟩ h5 again ⟨rfl,_,hcase⟩;dsimp only at hcase ⊢;rw [aP];rw [take_length] at hcase
   rcases hcase with ⟨rfl,hall,rfl,K⟩ | ⟨rfl,hex,rfl,K⟩
   · refine bH (K.mv 1) rfl ?_;rw [ae (by omega),aa,aA,ab];refine gX (n:=id) hso rfl (by omega) K fun a' c' h6 K2=>?_;rw [aF,aP];refine bQ (K2.mv 1) (show 2<5 by decide) rfl fun h7 K3=>?_;refine ⟨rfl,?_⟩;rw [kf hall];exact dI (M:={ M with S:=M.S++[(id,sb s)] }) (K3.ordT 6 [0,1,3,4,5])
   · refine bH (K.mv 1) rfl ?_;rw [ae (by omega),aa,az,aa,aP];refine bQ (K.mv 1) (show 2<5 by decide) rfl fun h7 K3=>?_;refine ⟨rfl,?_⟩;exact dI (M:={ M with S:=bR id (sb s) M.S }) (K3.ordT 6 [0,1,3,4,5])
theorem CP (O:jT n M) (hn:n≤100000) (H:aD (fh r m M::F) h):aC prog 62 [aI r] h fun v h'=>h'=h∧v=.int .i64 (bm M.Fo):=by
 obtain ⟨a1,c1,a2,c2,a3,c3,K⟩:=eh H
 have hF:=O.lenF
 apply Ia.ap
 unfold MF
 rw [aP]
 refine bH K rfl ?_
 by_cases hl:M.Fo.length=0
 · rw [jX (show ((M.Fo.length:Nat):Int)=0 by omega),ab];rw [List.length_eq_zero_iff.1 hl];exact ⟨rfl,rfl⟩
 · rw [iW (show ¬ ((M.Fo.length:Nat):Int)=0 by omega),aa,aP];refine bH K rfl ?_;rw [aP];refine bH K rfl ?_;have hw1:wrap .i64 (((M.Fo.length:Nat):Int) - 1)=((M.Fo.length - 1:Nat):Int):=by rw [IntWalk.i64_in _ (by omega)]; omega
   rw [hw1];obtain ⟨q,hq⟩:∃ q,M.Fo[M.Fo.length - 1]? = some q:=⟨_,ah (by omega)⟩
   refine mp (aH (K.mv 2)) rfl hq ?_;rw [AF.jb O.upF (fun p hp=>(O.okF p hp).1) hq];exact ⟨rfl,rfl⟩
theorem zS {Fo:List (Int×Unit)} (hu:gQ Fo) {n:Int} (hle:∀ p∈Fo,p.1≤n):Fo.filter (fun q => !decide (q.1=n))++[(n,())]=bR n () Fo:=by
 induction Fo with
 | nil=>rfl
 | cons p Fo ih=>
   obtain ⟨h1,h2⟩:=me.1 hu;have hp:=hle p (mem_cons_self ..);unfold bR;by_cases e:p.1=n
   · have:Fo=[]:=by
      cases Fo with
      | nil=>rfl
      | cons q Fo=>
        have a:=h1 q (mem_cons_self ..);have b:=hle q (aB _ (mem_cons_self ..));omega
     subst this;rw [al e];simp [e]
   · rw [ak e,ak (by omega),filter_cons,al (by simpa using e),cons_append,ih h2 fun q hq=>hle q (aB _ hq)]
set_option maxHeartbeats 2000000 in
theorem wc {last:Int} {U:fe} {sa pa:Option Addr} {sc pc:Nat} {Q:Value→Heap→Prop} (O:jT n M) (hn:n≤10000) (W:A.WF) (hs:A.steps+30000<1099511627776) (hm:A.files.length+20<1099511627776) (h0:0≤last) (hle:bm M.Fo≤last)
  (hU:∀ p∈U,Ae p) (hUw:oG U≤200000000000)
  (H:aD (aL 137 2 sa U.length sc (U.flatMap dQ)::aL 98 2 pa (kj U).length pc ((kj U).flatMap bV)::fh r m M::bp m A::F) h)
  (hQ:∀ v h',uQ r m (if 16777216<(AF.bC U).length then (A,M,42) else if (A.put M.dir (cu 102 last) (AF.bC U)).2≠0 then ((A.put M.dir (cu 102 last) (AF.bC U)).1,M,(A.put M.dir (cu 102 last) (AF.bC U)).2) else
   AF.bA.remove { M with Fo:=bR last () M.Fo,D:=U } (A.put M.dir (cu 102 last) (AF.bC U)).1 (lj last)) F v h'→Q v h') :
  xJ (some ⟨r,0,none⟩) last sa U.length sc pa (kj U).length pc h Q:=by
 have hps:dE (kj U)=AF.bC U:=sF fun p hp=>(hU p hp).2.1
 have hUl:=jD U
 have hpl:(kj U).length=U.length:=an _
 have hsz:(AF.bC U).length≤1099511627776:=by
  have:=oS (fun p hp=>(hU p hp).2.2) (show U.length<34359738368 by omega);omega
 have h8:B8 (AF.bC U):=AF.oT fun p hp=>(hU p hp).2.1
 have lS:=O.lenS
 have lF:=O.lenF
 unfold xJ
 refine (CO (F:=aL 137 2 sa U.length sc (U.flatMap dQ)::aL 98 2 pa (kj U).length pc ((kj U).flatMap bV)::fh r m M::bp m A::F) (ps:=kj U) (fun h' hh=>aH (hh.mv 1)) rfl (by omega) (fun p hp=>?_) (by rw [hps]; exact hsz) H).mono ?_
 · unfold kj at hp;obtain ⟨q,hq,rfl⟩:=List.mem_map.1 hp;refine ⟨?_,?_⟩
   · rw [← bd];have:=AF.jL q.1;dsimp only;omega
   · have:=(hU q hq).2.2;dsimp only;rw [i4];omega
 rintro v h1 ⟨rfl,H1⟩
 unfold xr
 rw [hps]
 by_cases hbig:16777216<(AF.bC U).length
 · rw [al hbig] at hQ ⊢;refine ⟨_,_,rfl,?_⟩;rw [show ((42:Int)!=0)=true from rfl,ab];exact hQ _ _ ⟨rfl,M,H1.ordT 4 [2,3],.inl rfl⟩
 rw [ak hbig] at hQ ⊢
 refine ⟨_,_,rfl,?_⟩
 rw [show ((0:Int)!=0)=false from rfl,aa]
 obtain ⟨a1,c1,a2,c2,a3,c3,K⟩:=eh (H1.mv 2)
 rw [aP]
 refine mK (x:=m) K rfl ?_
 rw [aP]
 refine bI (x:=M.dir) K rfl ?_
 refine (l8 (n:=last) K).mono ?_
 rintro y h3 ⟨rfl,K3⟩
 rw [aW]
 refine ⟨rfl,rfl,rfl,mK (x:=m) K3 rfl rfl,rfl,rfl,rfl,bI (x:=M.dir) K3 rfl rfl,rfl,uv rfl,?_⟩
 rw [show (⟨#[102,46]⟩:ByteArray)++bT (cU 16 (eY last))=cu 102 last from rfl]
 refine (wO (dir:=M.dir) (name:=cu 102 last) (b:=bT (AF.bC U)) W (by omega) hm (by rw [i4]; omega) (K3.mv 6)).mono ?_
 rintro y h4 ⟨rfl,K4⟩
 have T:=AF.qI M.dir (cu 102 last) (bT (AF.bC U)) W
 rw [bM h8] at K4 T ⊢
 rw [aJ]
 generalize hq:A.put M.dir (cu 102 last) (AF.bC U)=q at K4 T hQ ⊢
 by_cases he:q.2=0
 rotate_left
 · rw [al he] at hQ;rw [bo he,ab];exact hQ _ _ ⟨rfl,M,dI (K4.ordT 7 [1,2,3,4,0]),.inl rfl⟩
 rw [ak (not_not_intro he)] at hQ
 have he2:(((q.2:Nat):Int)!=0)=false:=by rw [he]; rfl
 rw [he2,aa]
 let K1:Nat→List (Int×Unit):=fun i=>(M.Fo.take i).filter fun q => !decide (q.1=last)
 have klen:∀ i,(K1 i).length≤M.Fo.length:=fun i=>Nat.le_trans (length_filter_le _ _) (by rw [aq]; omega)
 have K5:=K4.ordT 7 [1,2,3,4,5,0]
 refine aZ.upto M.Fo.length (fun i (s:Sl×Int) h'=>s.2=(i:Int)∧i≤M.Fo.length∧s.1.l=(K1 i).length∧aD (aL 2 1 s.1.a (K1 i).length s.1.c (uz (K1 i))::pt r (.cells (jh m M.dir a1 M.S.length c1 a2 M.Fo.length c2 a3 M.D.length c3) 130 (0,0))::aL 137 2 a1 M.S.length c1 (M.S.flatMap dQ)::aL 2 1 a2 M.Fo.length c2 (uz M.Fo)::aL 137 2 a3 M.D.length c3 (M.D.flatMap dQ)::aL 137 2 sa U.length sc (U.flatMap dQ)::bp m q.1::F) h') (fun s=>M.Fo.length - s.2.toNat) (fun i s h' hh=>⟨hh.2.1,by rw [hh.1]; omega⟩)
  ⟨rfl,au _,rfl,bE 2 1 K5⟩ ?_ ?_
 · rintro i ⟨⟨oa,ol,oc⟩,s3⟩ h5 again hi ⟨rfl,_,rfl,K⟩ go;dsimp only at K ⊢;obtain ⟨x,hx⟩:∃ x,M.Fo[i]? = some x:=⟨_,ah hi⟩
   have hk:=o9 (p:=fun y=>decide (y=last)) hx;have hw:wrap .i64 ((i:Int)+1)=((i+1:Nat):Int):=aK (by omega);rw [hw,aP];refine bH (K.mv 1) rfl ?_;rw [af (show ((i:Int)<(M.Fo.length:Int)) by omega),ab,aP];refine bH (K.mv 1) rfl ?_;refine mp (aH (K.mv 3)) rfl hx ?_;by_cases hne:x.1=last
   · rw [show (x.1 !=last)=false from by rw [hne]; exact bne_self_eq_false _,aa];have e:K1 (i+1)=K1 i:=by
      show (M.Fo.take (i+1)).filter _=_;rw [hk,al (by simpa using hne)]
     refine go _ _ ⟨rfl,by omega,by rw [e],?_⟩;rw [e];exact K
   · rw [show (x.1 !=last)=true from by rw [bne_iff_ne]; exact hne,ab,aP];refine bH (K.mv 1) rfl ?_;refine mp (aH (K.mv 3)) rfl hx ?_;refine qb rfl (by have:=klen i; omega) K fun a' c' h6 K6=>?_;rw [aF];have e:K1 (i+1)=K1 i++[(x.1,())]:=by
      show (M.Fo.take (i+1)).filter _=_;rw [hk,ak (by simpa using hne)]
     refine go _ _ ⟨rfl,by omega,by rw [e],?_⟩;rw [e];exact K6
 · rintro ⟨⟨oa,ol,oc⟩,s3⟩ h5 again ⟨rfl,_,rfl,K⟩;dsimp only at K ⊢;rw [aP];refine bH (K.mv 1) rfl ?_;rw [ae (by omega),aa];refine qb rfl (by have:=klen M.Fo.length; omega) K fun a' c' h6 K6=>?_;rw [aF];have eF:K1 M.Fo.length++[(last,())]=bR last () M.Fo:=by
    show (M.Fo.take M.Fo.length).filter _++_=_;rw [take_length];exact zS O.upF fun p hp=>by
     have:=AF.gU hp;omega
   rw [eF] at K6 ⊢;have hl:=(AF.eS last () M.Fo).1;rw [aP];refine bQ (K6.mv 1) (show 3<5 by decide) rfl fun h7 K7=>?_;rw [aP];refine bQ K7 (show 4<5 by decide) rfl fun h8 K8=>?_;have K9:aD (fh r m { M with Fo:=bR last () M.Fo,D:=U }::bp m q.1::F) h8:=dI (M:={ M with Fo:=bR last () M.Fo,D:=U }) (K8.ordT 7 [0,2,1,5,6]);have hst:q.1.steps≤A.steps+6:=T.2.1;have hr:=wN (M:={ M with Fo:=bR last () M.Fo,D:=U }) (upto:=last) (but:=last) (below := -1) T.1 (by dsimp only; omega) (by dsimp only; omega) (by dsimp only; omega) K9;rw [zw h0] at hr;refine hr.mono ?_;rintro v h9 hR;have hR2:=hR;obtain ⟨rfl,_⟩:=hR2;rw [aJ];exact hQ _ _ hR
theorem wj {α:Type} {D:List α} {p:α→Bool} {i:Nat} {x:α} (hx:D[i]? = some x):(D.take (i+1)).filter p=if p x=true then (D.take i).filter p++[x] else (D.take i).filter p:=by
 rw [ax,hx]
 show (D.take i++[x]).filter p=_
 rw [filter_append]
 split
 · rename_i h;simp [h]
 · rename_i h;simp [h]
set_option maxHeartbeats 4000000 in
theorem C8 {upto:Int} (O:jT n M) (hn:n≤10000) (W:A.WF) (hs:A.steps+30000<1099511627776) (hm:A.files.length+20<1099511627776) (H:aD (fh r m M::bp m A::F) h) :
  aC prog 25 [aI r,.int .i64 upto] h (uQ r m (M.fold A upto) F):=by
 apply IG.ap
 unfold Ng
 have hw0:=O.wt hn
 have hEl:=AF.copy_len M.D M.S
 have hEe:M.entries=dq M.S M.D:=rfl
 rw [← hEe] at hEl
 have lS:=O.lenS
 have lF:=O.lenF
 have hDl:M.D.length<100000000:=by
  have h1:=jD M.D;have h2:=O.wtD;omega
 refine (CP O (by omega) H).mono ?_
 rintro v h1 ⟨rfl,rfl⟩
 rw [aJ]
 generalize hmx:max upto (bm M.Fo)=mx
 have em:(if bm M.Fo>upto then bm M.Fo else upto)=mx:=by rw [← hmx]; split <;> omega
 rw [em]
 refine (rI O.upD O.upS hDl (by omega) H).mono ?_
 rintro v h2 ⟨ea,ec,rfl,H2⟩
 rw [aF]
 let U:Nat→fe:=fun i=>(M.entries.take i).filter fun p=>decide (p.1≤mx)
 have ulen:∀ i,(U i).length≤M.entries.length:=fun i=>Nat.le_trans (length_filter_le _ _) (by rw [aq]; omega)
 refine aZ.upto M.entries.length (fun i (s:Sl×Sl×Int) h'=>s.2.2=(i:Int)∧i≤M.entries.length∧s.1.l=(U i).length∧s.2.1.l=(kj (U i)).length∧aD (aL 137 2 s.1.a (U i).length s.1.c ((U i).flatMap dQ)::aL 98 2 s.2.1.a (kj (U i)).length s.2.1.c ((kj (U i)).flatMap bV)::aL 137 2 ea M.entries.length ec (M.entries.flatMap dQ)::fh r m M::bp m A::F) h') (fun s=>M.entries.length - s.2.2.toNat) (fun i s h' hh=>⟨hh.2.1,by rw [hh.1]; omega⟩)
  ⟨rfl,au _,rfl,rfl,bE 137 2 (bE 98 2 H2)⟩ ?_ ?_
 · rintro i ⟨⟨oa,ol,oc⟩,⟨qa,ql,qc⟩,s3⟩ h3 again hi ⟨rfl,_,rfl,rfl,K⟩ go;dsimp only at K ⊢;obtain ⟨x,hx⟩:∃ x,M.entries[i]? = some x:=⟨_,ah hi⟩
   have hk:=wj (p:=fun p:Int×List Nat=>decide (p.1≤mx)) hx;have hw:wrap .i64 ((i:Int)+1)=((i+1:Nat):Int):=aK (by omega);have hul:=ulen i;have hpl:(kj (U i)).length=(U i).length:=an _;rw [hw,af (show ((i:Int)<(M.entries.length:Int)) by omega),ab];refine ju (aH (K.mv 2)) rfl hx ?_;by_cases hle:x.1≤mx
   · rw [af hle,ab];have e:U (i+1)=U i++[(x.1,x.2)]:=by
      show (M.entries.take (i+1)).filter _=_;rw [hk,al (by simpa using hle)]
     have ep:kj (U (i+1))=kj (U i)++[(AF.lK x.1,bT x.2)]:=by
      rw [e];unfold kj;rw [map_append]
      rfl
     refine kX (aH (K.mv 2)) rfl hx ?_;refine gX (n:=x.1) (x:=x.2) rfl rfl (by omega) K fun a' c' h4 K4=>?_;rw [aF];refine ju (aH (K4.mv 2)) rfl hx ?_;refine fX (f:=dQ) (sz:=2) oo (by decide) (aH (K4.mv 2)) rfl hx fun b hb hc=>?_;refine ⟨.string (bT x.2),hc 1 _ rfl,bT x.2,rfl,?_⟩;refine (l8 (n:=x.1) K4).mono ?_;rintro y h5 ⟨rfl,K5⟩;rw [aW];have rd5:=aH (K5.mv 2);refine ⟨rfl,rfl,rfl,⟨b,hb,by omega,by omega,by rw [Int.toNat_natCast]; rfl⟩,rfl,?_,?_⟩
     · have hcell:=hc 1 _ rfl;have h6:aR ea M.entries.length (i:Int) 2 fun b=>Ld h5 (b.add 1) fun v=>DS v fun x7=>aG (some (.string (bT x.2))) (.string x7):=Hh rd5 rfl hx rfl;obtain ⟨b2,hb2,_,_,h7⟩:=h6;rw [hb] at hb2;cases hb2;rw [Int.toNat_natCast] at h7;exact h7
     refine aQ K5 fun b1 h6 H6=>?_;refine ⟨rfl,?_⟩;refine jR D3 uf uA (H6.mv 2) (n:=1) (ys:=bV (AF.lK x.1,bT x.2)) (ce (ln H6 rfl) rfl) (by intro u hu; simp [bV] at hu; rcases hu with rfl | rfl <;> rfl) (by omega) fun a'' c'' h7 _ H7=>?_;rw [aF];have e1:(kj (U i)).flatMap bV++bV (AF.lK x.1,bT x.2)=(kj (U (i+1))).flatMap bV:=by rw [ep,flatMap_append]; simp
     have e2:(kj (U i)).length+1=(kj (U (i+1))).length:=by rw [ep,am]; rfl
     rw [e1,e2] at H7;rw [e2];refine go _ _ ⟨rfl,by omega,by rw [e],rfl,?_⟩;rw [← e] at H7;exact H7.ordT 4 [2,0,3]
   · rw [ae hle,aa];have e:U (i+1)=U i:=by
      show (M.entries.take (i+1)).filter _=_;rw [hk,ak (by simpa using hle)]
     refine go _ _ ⟨rfl,by omega,by rw [e],by rw [e],?_⟩;rw [e];exact K
 · rintro ⟨⟨oa,ol,oc⟩,⟨qa,ql,qc⟩,s3⟩ h3 again ⟨rfl,_,rfl,rfl,K⟩;dsimp only at K ⊢;rw [ae (by omega),aa];have eU:U M.entries.length=M.entries.filter fun p=>decide (p.1≤mx):=by
    show (M.entries.take M.entries.length).filter _=_;rw [take_length]
   have hul:=ulen M.entries.length;have hUok:∀ p∈U M.entries.length,Ae p:=fun p hp=>by
    rw [eU] at hp;exact O.okE p (List.mem_filter.1 hp).1
   have hUup:gQ (U M.entries.length):=by
    rw [eU];exact O.upE.sub (filter_sublist ..)
   have hUw:oG (U M.entries.length)≤200000000000:=by
    rw [eU];exact Nat.le_trans (kG _ _) hw0
   unfold AF.bA.fold;dsimp only;rw [hmx,← eU];generalize U M.entries.length=V at *;have hV0:∀ p∈V,0≤p.1:=fun p hp=>(hUok p hp).1.1;by_cases hl:V.length=0
   · rw [jX (show ((V.length:Nat):Int)=0 by omega),ab];rw [al ((AF.qm hV0).2 (List.length_eq_zero_iff.1 hl))];exact ⟨rfl,M,K.ordT 5 [3,4],.inl rfl⟩
   rw [iW (show ¬ ((V.length:Nat):Int)=0 by omega),aa];have hw1:wrap .i64 (((V.length:Nat):Int) - 1)=((V.length - 1:Nat):Int):=by rw [IntWalk.i64_in _ (by omega)]; omega
   rw [hw1];obtain ⟨q,hq⟩:∃ q,V[V.length - 1]? = some q:=⟨_,ah (by omega)⟩
   have htop:bm V=q.1:=AF.jb hUup hV0 hq;have hq0:=hV0 q (ai hq);refine ju (aH K) rfl hq ?_;rw [← htop] at hq0 ⊢;generalize hlast:bm V=last at *;rw [ak (by omega)];obtain ⟨f1,f2,f3,f4⟩:=qv O mx (by rw [← eU]; exact hlast) hq0;have hle2:bm M.Fo≤last:=px (m:=mx) O (by omega) (by rw [← eU]; exact hlast) hq0;rw [f3,← eU];have go2:¬ (bm M.Fo=last∧M.Fo.length=1∧∀ p∈M.S,last<p.1)→xJ (some ⟨r,0,none⟩) last oa V.length oc qa (kj V).length qc h3 (uQ r m (if bm M.Fo=last∧M.Fo.length=1∧∀ p∈M.S,last<p.1 then (A,M,0) else if 16777216<(AF.bC V).length then (A,M,42) else if (A.put M.dir (cu 102 last) (AF.bC V)).2≠0 then ((A.put M.dir (cu 102 last) (AF.bC V)).1,M,(A.put M.dir (cu 102 last) (AF.bC V)).2) else
    AF.bA.remove { M with Fo:=bR last () M.Fo,D:=V } (A.put M.dir (cu 102 last) (AF.bC V)).1 (lj last)) F):=fun hno=>by
    rw [ak hno];exact wc O hn W hs hm hq0 hle2 hUok hUw (K.ordT 5 [0,1,3,4]) fun v h' hh=>hh
   have done:(bm M.Fo=last∧M.Fo.length=1∧∀ p∈M.S,last<p.1)→uQ r m (if bm M.Fo=last∧M.Fo.length=1∧∀ p∈M.S,last<p.1 then (A,M,0) else if 16777216<(AF.bC V).length then (A,M,42) else if (A.put M.dir (cu 102 last) (AF.bC V)).2≠0 then ((A.put M.dir (cu 102 last) (AF.bC V)).1,M,(A.put M.dir (cu 102 last) (AF.bC V)).2) else
    AF.bA.remove { M with Fo:=bR last () M.Fo,D:=V } (A.put M.dir (cu 102 last) (AF.bC V)).1 (lj last)) F (.int .i64 0) h3:=fun hyes=>by
    rw [al hyes];exact ⟨rfl,M,K.ordT 5 [3,4],.inl rfl⟩
   obtain ⟨a1,c1,a2,c2,a3,c3,K1⟩:=eh (K.mv 3);rw [aP];refine bH K1 rfl ?_;by_cases hF1:M.Fo.length=1
   rotate_left
   · rw [iW (show ¬ ((M.Fo.length:Nat):Int)=1 by omega),aa];exact go2 fun hh=>hF1 hh.2.1
   rw [jX (show ((M.Fo.length:Nat):Int)=1 by omega),ab,aP];refine bH K1 rfl ?_;obtain ⟨g,hg⟩:∃ g,M.Fo[0]? = some g:=⟨_,ah (by omega)⟩
   have hgt:bm M.Fo=g.1:=AF.jb O.upF (fun p hp=>(O.okF p hp).1) (by rw [hF1]; exact hg);refine mp (i:=0) (aH (K1.mv 2)) rfl hg ?_;by_cases hgl:g.1=last
   rotate_left
   · rw [iW hgl,aa];exact go2 fun hh=>hgl (by rw [← hgt]; exact hh.1)
   rw [jX hgl,ab,aP];refine bH K1 rfl ?_;by_cases hS0:M.S.length=0
   · rw [jX (show ((M.S.length:Nat):Int)=0 by omega),ab];exact done ⟨by rw [hgt]; exact hgl,hF1,fun p hp=>by rw [List.length_eq_zero_iff.1 hS0] at hp; cases hp⟩
   rw [iW (show ¬ ((M.S.length:Nat):Int)=0 by omega),aa,aP];refine bH K1 rfl ?_;obtain ⟨s,hs0⟩:∃ s,M.S[0]? = some s:=⟨_,ah (by omega)⟩
   refine ju (i:=0) (aH (K1.mv 1)) rfl hs0 ?_;by_cases hsl:s.1>last
   · rw [af hsl,ab];refine done ⟨by rw [hgt]; exact hgl,hF1,fun p hp=>?_⟩;obtain ⟨k,hk⟩:=List.mem_iff_getElem?.1 hp;obtain ⟨b1,e1⟩:=aj.1 hk;obtain ⟨b2,e2⟩:=aj.1 hs0
     rcases Nat.eq_zero_or_pos k with rfl | hpos
     · rw [hk] at hs0;cases hs0;exact hsl
     · have:=List.pairwise_iff_getElem.1 O.upS 0 k b2 b1 hpos;rw [e1,e2] at this;omega
   · rw [ae hsl,aa];exact go2 fun hh=>hsl (hh.2.2 s (ai hs0))
end
end Go.Proofs.YtmemjbiijclbdaaGreat
