/- The document's log: names,records found,Sync,segments that go. -/
import Derived.Test.YtdpaiiibndnanaaGreatDoorQpSo4
import Derived.Test.YtdpaiiibndnanaaGreatDoorQpPzX
import Derived.Test.YtdpaiiibndnanaaGreatDoorQpSy5
import Derived.Test.YtdpaiiibndnanaaGreatDoorQpTm
namespace Go.Proofs.YtdpaiiibndnanaaGreatDoor
open Go.IntKind (wrap)
open Go.Proofs.Tryz (prog)
open List (length_drop append_assoc drop_drop take_append_drop map_append map_take drop_zero mem_singleton append_nil eq_nil_of_length_eq_zero sum_append drop_eq_getElem_cons mem_of_getLast?)
open Go Go.RowKit
set_option linter.unusedVariables false
set_option linter.unusedSimpArgs false
open AF (aU fq bh bX dE cG Gr)
open Frame (aY ci fK eK fY jR)
def sv (x:List Nat):Value:=.string (dW x)
theorem xy {s:ByteArray} {h:Heap} {F:List aF} (hF:aG F h) (hs:s.size≤16777216) :
  aE prog 141 [.string s] h fun v h'=>∃ a' c',v=.tuple #[.slice a' (ci (sb s)).length c',.int .i64 (aY (ci (sb s)):Nat)]∧aG (aQ 9 1 a' (ci (sb s)).length c' ((ci (sb s)).map sv)::F) h':=by
 apply Cj.ap
 unfold GP
 have hsl:=bE s
 have h8:=gv s
 refine ⟨fun st h1=>∃ (done:List (List Nat)) (a:Option Addr) (c:Nat),st=(⟨a,done.length,c⟩,((aY done:Nat):Int),((done.length:Nat):Int))∧aY done≤s.size∧ci (sb s)=done++ci ((sb s).drop (aY done))∧aG (aQ 9 1 a done.length c (done.map sv)::F) h1,
  fun st _=>((s.size:Int)+1 - st.2.2).toNat,⟨[],none,0,rfl,aw _,rfl,bR 9 1 hF⟩,?_⟩
 rintro st h1 ⟨done,a,c,rfl,hd,hsc,H⟩
 have hcnt:=jK (sb s) h8 done.length done rfl (by omega)
 rw [ah (show ((done.length:Int)≤(s.size:Int)) by omega),ae]
 refine (xn H hd hs).mono ?_
 rintro v h2 ⟨rfl,H2⟩
 refine ⟨_,_,rfl,?_⟩
 have hfr:=jR (h8.drop (aY done))
 cases hok:(fY ((sb s).drop (aY done))).2 with
 | false=>
   rw [hok] at hfr;simp only [aC,ae];have:ci ((sb s).drop (aY done))=[]:=by rw [fK,hfr]; rfl
   rw [this,append_nil] at hsc;rw [hsc];exact ⟨a,c,rfl,H2⟩
 | true=>
   rw [hok,an rfl] at hfr;obtain ⟨_,hb2,hb3,_,_,hb8⟩:=eK (h8.drop _) hfr;generalize (fY ((sb s).drop (aY done))).1=body at *;rw [length_drop,hsl] at hb3;simp only [aB,ab];refine aW H2 fun b h3 H3=>?_;have hr:cv h3 (some ⟨b,0,none⟩) [.string (dW body)]:=by
    intro j v hv;rw [dH H3.get];simpa using hv
   have hm1:(done.length+1)*16≤140737488355328:=by omega
   refine gr HF yg DC (H3.mv 1) (bJ hr rfl) (by intro u hu; simp at hu; subst hu; rfl) hm1 fun a' c' h4 _ H4=>?_;rw [aI];have w:wrap .i64 (wrap .i64 (((aY done:Nat):Int)+8)+((dW body).size:Int))=((aY (done++[body]):Nat):Int):=by
    rw [dC hb8,eM,IntWalk.i64_in (((aY done:Nat):Int)+8) (by omega),IntWalk.i64_in _ (by omega)];omega
   rw [w,aN (by omega)];have hsc2:ci ((sb s).drop (aY done))=body::ci ((sb s).drop (aY done+(8+body.length))):=by
    rw [fK,hfr];simp only [drop_drop]
   refine ⟨⟨done++[body],a',c',by rw [ao]; rfl,by rw [eM]; omega,?_,?_⟩,?_⟩
   · rw [hsc,hsc2,eM,append_assoc]
     rfl
   · rw [map_append,ao];exact (H4.mv 1).drop
   · show ((s.size:Int)+1 - ((done.length+1:Nat):Int)).toNat<((s.size:Int)+1 - (done.length:Int)).toNat;omega
theorem rN:∀ (n:Nat) (x:List Nat),x.length≤n→B8 x→∀ y∈ci x,B8 y
 | n,x,hn,h8,y,hy=>by
   rw [fK] at hy
   cases hf:Frame.cq x with
   | none=>rw [hf] at hy; cases hy
   | some b=>
     obtain ⟨_,hb2,hb3,_,_,hb8⟩:=eK h8 hf;rw [hf] at hy
     rcases aA.1 hy with rfl | hy
     · exact hb8
     · match n with
       | 0=>omega
       | n+1=>exact rN n (x.drop (8+b.length)) (by rw [length_drop]; omega) (h8.drop _) y hy
theorem uE {xs:List (List Nat)} {i:Nat} {x:List Nat} (hx:xs[i]? = some x):aY (xs.take (i+1))=aY (xs.take i)+(8+x.length):=by
 rw [az,hx]
 exact eM _ _
theorem tT {s:ByteArray} {h:Heap} {F:List aF} (hF:aG F h) (hs:s.size≤16777216) :
  aE prog 98 [.string s] h fun v h'=>∃ (a:Option Addr) (c:Nat) (G:aF),v=.tuple #[.slice a (bp (sb s)).length c,.int .i64 (aY (bp (sb s)):Nat)]∧aG (G::F) h'∧∀ F2 h2,aG (G::F2) h2→cv h2 a ((bp (sb s)).map sv):=by
 apply D1.ap
 unfold Ix
 have hsl:=bE s
 have h8:=gv s
 refine (xy hF hs).mono ?_
 rintro v h1 ⟨a,c,rfl,H1⟩
 refine ⟨a,_,c,_,rfl,?_⟩
 have hfit:=AF.sW _ (sb s) (ax _) h8
 have hcnt:=jK (sb s) h8 (ci (sb s)).length (ci (sb s)) rfl hfit
 have hcap:=(dA H1).2.1
 generalize hxs:ci (sb s)=xs at H1 hfit hcnt hcap ⊢
 have h8x:∀ y∈xs,B8 y:=fun y hy=>rN _ (sb s) (ax _) h8 y (by rw [hxs]; exact hy)
 refine ⟨fun st hh=>hh=h1∧∃ i:Nat,st=(((aY (xs.take i):Nat):Int),(i:Int))∧i≤xs.length∧∀ y∈xs.take i,y.length≤1024,fun st _=>((xs.length:Int) - st.2).toNat,⟨rfl,0,rfl,aw _,by simp⟩,?_⟩
 rintro st h2 ⟨rfl,i,rfl,hi,hle⟩
 dsimp only
 by_cases hil:i<xs.length
 rotate_left
 · rw [af (by omega),ab];rw [av (by omega)] at hle ⊢;have eg:bp (sb s)=xs:=by rw [wR (by rw [hxs]; exact hle),hxs]
   rw [eg];exact ⟨a,c,_,rfl,H1,fun F2 h2 H2=>aH H2⟩
 rw [ah (show ((i:Int)<(xs.length:Int)) by omega),ae]
 obtain ⟨x,hx⟩:∃ x,xs[i]? = some x:=⟨_,ai hil⟩
 have hx8:=h8x x (aj hx)
 have hxv:(xs.map sv)[i]? = some (.string (dW x)):=by rw [List.getElem?_map,hx]; rfl
 have hsplit:xs=xs.take i++x::xs.drop (i+1):=by
  conv=>lhs; rw [← take_append_drop i xs,drop_eq_getElem_cons hil]
  congr 2;exact (ak.1 hx).2
 have hreach:aY (xs.take i)+(8+x.length)≤s.size:=by
  have e:aY xs=aY (xs.take i)+((8+x.length)+aY (xs.drop (i+1))):=by
   conv=>lhs; rw [hsplit]
   simp [aY,sum_append]
  omega
 refine bj (v:=.string (dW x)) (aH H1) (aq _) hxv fun b hb hc=>⟨_,hc,dW x,rfl,?_⟩
 dsimp only
 rw [dC hx8]
 by_cases hbig:x.length>1024
 · rw [ah (by omega),ae];refine dI (lo:=0) (aw _) (by omega) (ax c) ?_;have eg:bp (sb s)=xs.take i:=j9 (more:=xs.drop (i+1)) (b:=x) (by rw [hxs]; exact hsplit) (fun y hy=>ah (hle y hy)) (af (by omega));rw [eg,Nat.sub_zero];have el:(xs.take i).length=i:=by rw [au]; omega
   rw [el];refine ⟨_,_,_,rfl,H1,fun F2 h2 H2=>?_⟩;have:=cv.subN (aH H2) 0 i c 1 (by omega);rw [Nat.zero_mul,drop_zero,← map_take] at this;exact this
 rw [af (by omega),ab]
 refine bj (v:=.string (dW x)) (aH H1) (aq _) hxv fun b hb hc=>⟨_,hc,dW x,rfl,?_⟩
 dsimp only
 rw [dC hx8]
 refine ⟨⟨rfl,i+1,?_,by omega,?_⟩,by rw [aN (by omega)]; show ((xs.length:Int) - ((i+1:Nat):Int)).toNat<((xs.length:Int) - (i:Int)).toNat; omega⟩
 · rw [aN (by omega),uE hx,IntWalk.i64_in (((aY (xs.take i):Nat):Int)+8) (by omega),IntWalk.i64_in _ (by omega)];refine Prod.ext ?_ rfl;show ((aY (xs.take i):Nat):Int)+8+(x.length:Int)=((aY (xs.take i)+(8+x.length):Nat):Int)
   omega
 · intro y hy;rw [az,hx] at hy
   rcases List.mem_append.1 hy with hy | hy
   · exact hle y hy
   · rw [Option.toList_some,mem_singleton] at hy;rw [hy];omega
theorem Im:prog.underlying 119=some (.slice 168):=by kernel_rfl
theorem Ir:d8 prog 119=true:=by kernel_rfl
theorem CZ:gi prog 168 3 24=true:=by kernel_rfl
def eI (r m:Nat) (L:aU):aF:=pZ fun q:Option Addr×Nat=>bP [pt r (.cells (eJ m L q.1 q.2) 121 (0,0)),aQ 168 3 q.1 L.parts.length q.2 (bA L.parts)]
section
variable {r m:Nat} {L:aU} {A:AF.FS} {F:List aF} {h:Heap} {k:Nat}
theorem fX (H:aG (eI r m L::F) h):∃ (a:Option Addr) (c:Nat),aG (pt r (.cells (eJ m L a c) 121 (0,0))::aQ 168 3 a L.parts.length c (bA L.parts)::F) h:=by
 obtain ⟨⟨a,c⟩,H2⟩:=bD.1 H
 exact ⟨a,c,H2.open⟩
theorem cK {a:Option Addr} {c:Nat} (H:aG (pt r (.cells (eJ m L a c) 121 (0,0))::aQ 168 3 a L.parts.length c (bA L.parts)::F) h):aG (eI r m L::F) h:=
 bD.2 ⟨(a,c),aG.shut (m:=[pt r (.cells (eJ m L a c) 121 (0,0)),aQ 168 3 a L.parts.length c (bA L.parts)]) H⟩
theorem iP {n:Nat} (hn:n<9223372036854775808) (H:aG F h):aE prog 96 [.int .i64 (n:Int)] h fun v h'=>v=.string (cG n)∧aG F h':=by
 apply D3.ap
 unfold Iz
 refine (xA H).mono ?_
 rintro v h1 ⟨rfl,H1⟩
 rw [aT,qF (by omega)]
 exact ⟨by rw [dC (Hex.ig 16 n),Hex.fm]; decide,rfl,H1⟩
theorem jQ {a:Option Addr} {l:Nat} {p:AF.eH} {h:Heap} {K:Addr→Prop} (H:cv h a (bA L.parts)) (hl:L.parts.length=l) (hp:L.parts.getLast? = some p) (hm:l<4611686018427387904)
  (hK:∀ b,a=some b→bI h ((b.add (L.parts.dropLast.length*3)).add 0)=some (.int .i64 (p.base:Int))→bI h ((b.add (L.parts.dropLast.length*3)).add 1)=some (.int .i64 (p.count:Int))→bI h ((b.add (L.parts.dropLast.length*3)).add 2)=some (.int .i64 (p.size:Int))→K (b.add (L.parts.dropLast.length*3))) :
  aO a l (wrap .i64 ((l:Int) - 1)) 3 K:=by
 have hs:=iE hp
 have hlen:l=L.parts.dropLast.length+1:=by rw [← hl]; conv=>lhs; rw [hs]
                                           simp
 have hget:L.parts[L.parts.dropLast.length]? = some p:=by
  conv=>lhs; lhs; rw [hs]
  rw [List.getElem?_append_right (ax _),Nat.sub_self]
  rfl
 rw [IntWalk.i64_in _ (by omega),show ((l:Int) - 1)=(L.parts.dropLast.length:Int) by omega]
 obtain ⟨g0,g1,g2⟩:=iD hget
 obtain ⟨b,hb,c0⟩:=H.nilOr g0
 subst hb
 refine ⟨b,rfl,by omega,by omega,?_⟩
 rw [Int.toNat_natCast]
 refine hK b rfl ?_ ?_ ?_
 · rw [bm]; exact H _ _ g0
 · rw [bm]; exact H _ _ g1
 · rw [bm]; exact H _ _ g2
theorem pS (W:A.WF) (hs:A.steps<1099511627776) (S:L.Small k) (H:aG (eI r m L::bd m A::F) h) :
  aE prog 46 [aM r] h fun v h'=>v=.int .i64 ((L.sync A).2:Int)∧aG (eI r m (L.synced (L.sync A).2)::bd m (L.sync A).1::F) h':=by
 obtain ⟨a,c,H1⟩:=fX H
 apply Eu.ap
 unfold I5
 simp only [aK]
 have hmany:=S.many
 have hfew:=S.few
 refine bH (a:=a) (l:=L.parts.length) (m:=c) H1 rfl ?_
 cases hp:L.parts.getLast? with
 | none=>
   have e0:L.parts=[]:=by
    cases hl:L.parts with
    | nil=>rfl
    | cons x xs=>rw [hl] at hp; simp at hp
   have es:L.sync A=(A,0):=by unfold AF.aU.sync; rw [hp]
   rw [es,show decide (((L.parts.length:Nat):Int)>0)=false from by rw [e0]; rfl,ab];refine bM (x:=(L.fin:Int)) H1 rfl ?_;refine ct (c':=eJ m { L with dur:=L.fin } a c) H1 (by show 5<6; decide) rfl fun h2 H2=>?_;rw [AF.aU.synced,an rfl];exact ⟨rfl,cK (L:={ L with dur:=L.fin }) H2⟩
 | some p=>
   have hpos:0<L.parts.length:=by
    cases hl:L.parts with
    | nil=>rw [hl] at hp; cases hp
    | cons x xs=>exact Nat.succ_pos _
   have hpm:p∈L.parts:=mem_of_getLast? hp;have es:L.sync A=A.sync L.dir (cG p.base):=by unfold AF.aU.sync; rw [hp]
   have hbase:=(S.each p hpm).1;rw [ah (by omega),ae];refine dK H1 rfl ?_;refine bz H1 rfl ?_;refine bH (a:=a) (l:=L.parts.length) (m:=c) H1 rfl ?_;refine bH (a:=a) (l:=L.parts.length) (m:=c) H1 rfl ?_;refine jQ (aH (H1.mv 1)) rfl hp (by omega) fun b hb c0 _ _=>nX c0 ?_;refine (iP (n:=p.base) (by omega) H1).mono ?_;rintro v h2 ⟨rfl,H2⟩;rw [aT];refine ⟨rfl,rfl,rfl,dK H2 rfl rfl,rfl,rfl,rfl,bz H2 rfl rfl,?_⟩;refine (pM W hs (H2.mv 2)).mono ?_;rintro v h3 ⟨rfl,H3⟩;rw [aL,es];have H4:=H3.ordT 3 [1,2,0];by_cases he:(A.sync L.dir (cG p.base)).2=0
   · rw [he,show (((0:Nat):Int)!=0)=false from rfl,ab];refine bM (x:=(L.fin:Int)) H4 rfl ?_;refine ct (c':=eJ m { L with dur:=L.fin } a c) H4 (by show 5<6; decide) rfl fun h5 H5=>?_;rw [AF.aU.synced,an rfl];exact ⟨rfl,cK (L:={ L with dur:=L.fin }) H5⟩
   · rw [aX he,ae,AF.aU.synced,am he];exact ⟨rfl,cK H4⟩
theorem rA {gone:List Nat} {ga:Option Addr} {gl gc:Nat} (hr:∀ h',aG F h'→cv h' ga (mg gone)) (hl:gone.length=gl) (hm:gl≤4096) (hn:∀ n∈gone,n<9223372036854775808) (W:A.WF) (hs:A.steps+5000<1099511627776)
  (H:aG (eI r m L::bd m A::F) h) :
  aE prog 136 [aM r,.slice ga gl gc] h fun v h'=>v=.int .i64 ((dE L.dir gone A).2:Int)∧aG (eI r m L::bd m (dE L.dir gone A).1::F) h':=by
 apply Cp.ap
 unfold GU
 simp only [aK]
 refine ⟨fun st hh=>∃ i:Nat,st=(i:Int)∧i≤gl∧(bX L.dir (gone.take i) A).2=0∧aG (eI r m L::bd m (bX L.dir (gone.take i) A).1::F) hh,
  fun st _=>((gl:Int) - st).toNat,⟨0,rfl,aw _,rfl,H⟩,?_⟩
 rintro st h1 ⟨i,rfl,hi,h0,H1⟩
 obtain ⟨W1,G1⟩:=AF.i6 L.dir (gone.take i) A W
 have hlt:(gone.take i).length≤i:=by rw [au]; omega
 have g1:=G1.1
 obtain ⟨a,c,H2⟩:=fX H1
 by_cases hil:i<gl
 · rw [ah (show ((i:Int)<(gl:Int)) by omega),ae];obtain ⟨n,hgn⟩:∃ n,gone[i]? = some n:=⟨_,ai (by omega)⟩
   refine dK H2 rfl ?_;refine bz H2 rfl ?_;refine cN (hr h1 (H2.rest 3)) (by rw [mf]; exact hl) (n6 hgn) fun b hb=>⟨_,hb,(n:Int),rfl,?_⟩
   refine (iP (hn n (aj hgn)) H2).mono ?_;rintro v h3 ⟨rfl,H3⟩;rw [aT];refine ⟨rfl,rfl,rfl,dK H3 rfl rfl,rfl,rfl,rfl,bz H3 rfl rfl,?_⟩;refine (mA W1 (by omega) (H3.mv 2)).mono ?_;rintro v h4 ⟨rfl,H4⟩;rw [aL];have H5:=cK (H4.ordT 3 [1,2,0]);have e:=AF.nE h0 hgn;rw [← e] at H5 ⊢;by_cases h2:(bX L.dir (gone.take (i+1)) A).2=0
   · rw [h2,show (((0:Nat):Int)!=0)=false from rfl,ab];exact ⟨⟨i+1,by rw [IntWalk.i64_in _ (by omega)]; rfl,by omega,h2,H5⟩,by rw [IntWalk.i64_in _ (by omega)]; show ((gl:Int) - ((i:Int)+1)).toNat<((gl:Int) - (i:Int)).toNat; omega⟩
   · rw [aX h2,ae];have ef:=AF.nF h2;have:dE L.dir gone A=bX L.dir gone A:=by
      unfold dE;rw [ef,an h2]
     rw [this,ef];exact ⟨rfl,H5⟩
 · rw [af (show ¬ ((i:Int)<(gl:Int)) by omega),ab];have hig:i=gl:=by omega
   rw [av (by omega)] at h0 H1 H2 W1 g1;by_cases hg:gone=[]
   · have hgl:gl=0:=by rw [← hl,hg]; rfl
     rw [hgl,show decide (((0:Nat):Int)>0)=false from rfl,ab];have:dE L.dir gone A=bX L.dir gone A:=by
      unfold dE;rw [am (fun hh=>hh h0),an hg]
     rw [this,h0];exact ⟨rfl,H1⟩
   · have hgl:gl≠0:=fun hh=>hg (eq_nil_of_length_eq_zero (by omega));rw [ah (by omega),ae];refine dK H2 rfl ?_;refine bz H2 rfl ?_;refine (kA W1 (by omega) (H2.mv 2)).mono ?_;rintro v h4 ⟨rfl,H4⟩;rw [aL];have:dE L.dir gone A=(bX L.dir gone A).1.syncDir L.dir:=by
      unfold dE;rw [am (fun hh=>hh h0),am hg]
     rw [this];exact ⟨rfl,cK (H4.ordT 3 [1,2,0])⟩
end
end Go.Proofs.YtdpaiiibndnanaaGreatDoor
