/- The document's source: Open,Append,Sync,within,Plan. -/
import Derived.Test.YtdpaiiibndnanaaGreatDoorQpSoC
namespace Go.Proofs.YtdpaiiibndnanaaGreatDoor
open Go.Proofs.Tryz (prog)
open List (append_assoc map_append zipWith zipWith_append length_set)
open Go Go.RowKit
set_option linter.unusedVariables false
set_option linter.unusedSimpArgs false
open Dl (LP bC cnt bF j4)
open AF (aU cG Gr dD e9 Rg lf cx cH dd j5 dZ pK eY iS fI)
def nR (m:Nat) (qs:List Nat) (ls:List aU):List aF:=zipWith (fun q L=>eI q m L) qs ls
theorem kK {m i a:Nat} {qs:List Nat} {ls:List aU} {L:aU} {G:List aF} {h:Heap} (ha:qs[i]? = some a) (hL:ls[i]? = some L) (H:aG (bP (nR m qs ls)::G) h) :
  ∃ R:aF,aG (eI a m L::R::G) h∧∀ L' G' h',aG (eI a m L'::R::G') h'→aG (bP (nR m qs (ls.set i L'))::G') h':=by
 refine ⟨bP ((nR m qs ls).eraseIdx i),(pn (E:=fun a L=>eI a m L) H.open ha hL).shut1,fun L' G' h' H'=>?_⟩
 exact (sM (E:=fun a L=>eI a m L) ha (ak.1 hL).1 (y:=L') H'.open1).shut
def d9 (t m:Nat) (ls:List aU):aF:=pZ fun w:List Nat×Option Addr×Nat=>bP [lY (w.1.length=ls.length),pt t (.cells #[.slice w.2.1 ls.length w.2.2] 112 (0,0)),aQ 113 1 w.2.1 ls.length w.2.2 (w.1.map aM),bP (nR m w.1 ls)]
theorem HK:prog.underlying 110=some (.slice 113):=by kernel_rfl
theorem Dk:d8 prog 110=true:=by kernel_rfl
theorem DF:gj prog 113 8=true:=by kernel_rfl
theorem Jt:prog.underlying 42=some (.slice 86):=by kernel_rfl
theorem Fh:d8 prog 42=true:=by kernel_rfl
theorem FB:gi prog 86 2 16=true:=by kernel_rfl
section
variable {t m:Nat} {ls:List aU} {A:AF.FS} {F:List aF} {h:Heap} {k:Nat}
theorem gy (H:aG (d9 t m ls::F) h):∃ (qs:List Nat) (a:Option Addr) (c:Nat),qs.length=ls.length∧aG (pt t (.cells #[.slice a ls.length c] 112 (0,0))::aQ 113 1 a ls.length c (qs.map aM)::bP (nR m qs ls)::F) h:=by
 obtain ⟨⟨qs,a,c⟩,H1⟩:=bD.1 H
 obtain ⟨e,H2⟩:=cE.1 H1.open
 exact ⟨qs,a,c,e,H2⟩
theorem jl {qs:List Nat} {a:Option Addr} {c:Nat} (e:qs.length=ls.length) (H:aG (pt t (.cells #[.slice a ls.length c] 112 (0,0))::aQ 113 1 a ls.length c (qs.map aM)::bP (nR m qs ls)::F) h):aG (d9 t m ls::F) h:=
 bD.2 ⟨(qs,a,c),aG.shut (m:=[lY (qs.length=ls.length),pt t (.cells #[.slice a ls.length c] 112 (0,0)),aQ 113 1 a ls.length c (qs.map aM),bP (nR m qs ls)]) (cE.2 ⟨e,H⟩)⟩
def DX (m:Nat) (q:AF.FS×Except Nat (List aU)) (F:List aF) (v:Value) (h':Heap):Prop:=
 (∃ t ls,q.2=.ok ls∧v=.tuple #[aM t,.int .i64 0]∧aG (d9 t m ls::bd m q.1::F) h')∨
 (∃ e:Nat,q.2=.error e∧e≠0∧v=.tuple #[.pointer none,.int .i64 (e:Int)]∧aG (bd m q.1::F) h')
theorem wM {i:Nat} (h:i<4):([.string ⟨#[112,48]⟩,.string ⟨#[112,49]⟩,.string ⟨#[112,50]⟩,.string ⟨#[112,51]⟩]:List Value)[i]? = some (.string (pK i)):=by
 match i,h with
 | 0,_=>rfl
 | 1,_=>rfl
 | 2,_=>rfl
 | 3,_=>rfl
set_option maxHeartbeats 1000000 in
theorem mD {parts size:Int} (W:A.WF) (hs:A.steps+100000<1099511627776) (hfs:A.files.length+100000<1099511627776) (H:aG (bd m A::F) h) :
  aE prog 23 [aM m,.int .i64 parts,.int .i64 size] h fun v h'=>DX m (A.openSrc parts size) F v h':=by
 apply EH.ap
 unfold Jh
 by_cases h1:parts<1
 · rw [ah h1,ae];have e:A.openSrc parts size=(A,.error 110):=by unfold AF.FS.openSrc; rw [an (.inl h1)]
   rw [e];exact .inr ⟨110,rfl,by decide,rfl,H⟩
 rw [af h1,ab]
 by_cases h2:4<parts
 · rw [ah (show parts>4 from h2),ae];have e:A.openSrc parts size=(A,.error 110):=by unfold AF.FS.openSrc; rw [an (.inr h2)]
   rw [e];exact .inr ⟨110,rfl,by decide,rfl,H⟩
 rw [af (show ¬ parts>4 from h2),ab]
 obtain ⟨n,rfl⟩:∃ n:Nat,parts=(n:Int):=⟨parts.toNat,by omega⟩
 have eo:A.openSrc (n:Int) size=eY size n 0 A []:=by
  unfold AF.FS.openSrc;rw [am (by omega),Int.toNat_natCast]
 rw [eo]
 refine aW H fun t h3 H3=>?_
 refine ⟨fun st hh=>∃ (i:Nat) (ls:List aU) (B:AF.FS),st=(i:Int)∧i≤n∧ls.length=i∧eY size n 0 A []=eY size (n - i) i B ls∧B.WF∧(B.steps≤A.steps+9000*i∧B.files.length≤A.files.length+9000*i)∧
   aG (d9 t m ls::bd m B::F) hh,
  fun st _=>((n:Int) - st).toNat,⟨0,[],A,rfl,aw _,rfl,rfl,W,⟨ax _,ax _⟩,?_⟩,?_⟩
 · refine jl (qs:=[]) (a:=none) (c:=0) rfl ?_;exact (bR 113 1 (aG.shut (m:=[]) H3)).ordT 3 [2,0,1]
 rintro st h4 ⟨i,ls,B,rfl,hi,hls,ego,WB,⟨sB,fB⟩,H4⟩
 by_cases hil:i<n
 rotate_left
 · have:i=n:=by omega
   subst this;rw [af (by omega),ab,ego,Nat.sub_self];exact .inl ⟨t,ls,rfl,rfl,H4⟩
 rw [ah (show ((i:Int)<(n:Int)) by omega),ae]
 have hi4:i<4:=by omega
 have big:9000*i≤36000:=by omega
 refine aW H4 fun b1 h5 H5=>?_
 refine bj (v:=.string (pK i)) (ge H5 rfl) rfl (wM hi4) fun b hb hc=>⟨_,hc,pK i,rfl,?_⟩
 dsimp only
 refine (zK (dir:=pK i) (size:=size) WB (by omega) (by omega) (by rw [AF.mc]; decide) (H5.mv 2)).mono ?_
 obtain ⟨W1,G1,_⟩:=AF.oU (size:=size) WB (dir:=pK i) (by rw [AF.mc]; decide)
 have estep:eY size (n - i) i B ls=match (B.openL (pK i) size).2 with
  | .error e=>((B.openL (pK i) size).1,.error e)
  | .ok L=>eY size (n - (i+1)) (i+1) (B.openL (pK i) size).1 (ls++[L]):=by
  rw [show n - i=(n - (i+1))+1 by omega]
  rfl
 rintro v h6 (⟨q,L,ho,rfl,H6⟩ | ⟨e,ho,e0,rfl,H6⟩)
 · refine ⟨_,0,rfl,?_⟩;rw [show ((0:Int)!=0)=false from rfl,ab];obtain ⟨qs,a,c,hq,H7⟩:=gy (H6.mv 3);refine bH (a:=a) (l:=ls.length) (m:=c) H7 rfl ?_;refine aW H7 fun b2 h7 H8=>?_;refine gr HK Dk DF (H8.mv 2) (n:=1) (ys:=[aM q]) (bJ (ge H8 rfl) rfl) (by intro u hu; simp at hu; subst hu; rfl) (by omega) fun a' c' h8 _ H9=>?_;rw [aI,aP];refine ct (b:=t) (i:=0) (c':=#[.slice a' (ls.length+1) c']) (H9.mv 2) (by show 0<1; decide) rfl fun h9 H10=>?_;have g9:(B.openL (pK i) size).1.steps≤A.steps+9000*(i+1):=by
    clear hs;have:B.steps+9000≤A.steps+9000*(i+1):=by rw [Nat.mul_add,Nat.mul_one,← Nat.add_assoc]; exact Nat.add_le_add_right sB _
    exact Nat.le_trans G1.1 this
   have f9:(B.openL (pK i) size).1.files.length≤A.files.length+9000*(i+1):=by
    clear hs;have:B.files.length+9000≤A.files.length+9000*(i+1):=by rw [Nat.mul_add,Nat.mul_one,← Nat.add_assoc]; exact Nat.add_le_add_right fB _
    exact Nat.le_trans G1.2 this
   refine ⟨⟨i+1,ls++[L],(B.openL (pK i) size).1,by rw [IntWalk.i64_in _ (by omega)]; rfl,by omega,by rw [ao,hls]; rfl,by rw [ego,estep,ho],W1,⟨g9,f9⟩,?_⟩,by
    rw [IntWalk.i64_in _ (by omega)]; show ((n:Int) - ((i:Int)+1)).toNat<((n:Int) - (i:Int)).toNat; omega⟩
   have e:nR m (qs++[q]) (ls++[L])=nR m qs ls++[eI q m L]:=by
    unfold nR;rw [zipWith_append hq]
    rfl
   have H11:=(H10.ordT 7 [3,4,0,1,5]).open;have H12:aG (nR m (qs++[q]) (ls++[L])++(pt t (.cells #[.slice a' (ls.length+1) c'] 112 (0,0))::aQ 113 1 a' (ls.length+1) c' (qs.map aM++[aM q])::bd m (B.openL (pK i) size).1::F)) h9:=by
    rw [e,append_assoc];exact H11
   refine jl (qs:=qs++[q]) (a:=a') (c:=c') (by rw [ao,ao,hq]; rfl) ?_;rw [ao,map_append];exact H12.shut.ordT 3 [1,2,0]
 · refine ⟨none,_,rfl,?_⟩;rw [aX e0,ae,ego,estep,ho];exact .inr ⟨e,rfl,e0,rfl,H6.ordT 3 [0]⟩
theorem zT {s:ByteArray} {part:Int} (W:A.WF) (hs:A.steps+4<1099511627776) (hfs:A.files.length+4<1099511627776) (I:e9 k ls) (hk:k+1<100000) (H:aG (d9 t m ls::bd m A::F) h) :
  aE prog 25 [aM t,.int .i64 part,.string s] h fun v h'=>v=gJ (iS ls A part (sb s)).2.2∧aG (d9 t m (iS ls A part (sb s)).2.1::bd m (iS ls A part (sb s)).1::F) h':=by
 obtain ⟨qs,a,c,hq,H1⟩:=gy H
 apply EF.ap
 unfold Jf
 have none_of:(part<0∨(ls.length:Int)≤part)→dD ls part=none:=fun hp=>by
  unfold dD;split
  · rfl
  · exact List.getElem?_eq_none_iff.2 (by omega)
 by_cases h1:part<0
 · rw [ah h1,ae];unfold iS;rw [none_of (.inl h1)];exact ⟨rfl,H⟩
 rw [af h1,ab,aK]
 refine bH (a:=a) (l:=ls.length) (m:=c) H1 rfl ?_
 by_cases h2:part≥(ls.length:Int)
 · rw [ah h2,ae];unfold iS;rw [none_of (.inr h2)];exact ⟨rfl,H⟩
 rw [af h2,ab,aK]
 refine bH (a:=a) (l:=ls.length) (m:=c) H1 rfl ?_
 obtain ⟨i,rfl⟩:∃ i:Nat,part=(i:Int):=⟨part.toNat,by omega⟩
 obtain ⟨q,hqi⟩:∃ q,qs[i]? = some q:=⟨_,ai (by omega)⟩
 obtain ⟨L,hL⟩:∃ L,ls[i]? = some L:=⟨_,ai (by omega)⟩
 refine bj (v:=aM q) (aH (H1.mv 1)) (by rw [aq]; exact hq) (by rw [List.getElem?_map,hqi]; rfl) fun b hb hc=>⟨_,hc,?_⟩
 show DP (.pointer (some ⟨q,0,none⟩)) _
 rw [bo]
 have e:dD ls (i:Int)=some L:=by
  unfold dD;rw [am (by omega),Int.toNat_natCast,hL]
 obtain ⟨R,H3,back⟩:=kK hqi hL (H1.mv 2)
 have IL:=I.2 L (aj hL)
 refine (zJ W hs hfs IL.small (by omega) (H3.ordT 5 [0,4,1,2,3])).mono ?_
 rintro v h3 ⟨rfl,H5⟩
 unfold iS
 rw [e]
 dsimp only
 rw [Int.toNat_natCast]
 have fin:aG (d9 t m (ls.set i (L.append A (sb s)).2.1)::bd m (L.append A (sb s)).1::F) h3:=by
  have H6:=back _ _ _ (H5.ordT 5 [0,2,3,4,1]);refine jl (qs:=qs) (a:=a) (c:=c) (by rw [length_set]; exact hq) ?_;rw [length_set];exact H6.ordT 3 [1,2,0]
 cases hr2:(L.append A (sb s)).2.2 with
 | ok n=>exact ⟨(n:Int),0,rfl,rfl,fin⟩
 | error x=>exact ⟨0,(x:Int),rfl,rfl,fin⟩
theorem zS {part:Int} (W:A.WF) (hs:A.steps+4<1099511627776) (I:e9 k ls) (H:aG (d9 t m ls::bd m A::F) h) :
  aE prog 26 [aM t,.int .i64 part] h fun v h'=>v=.int .i64 ((fI ls A part).2.2:Int)∧aG (d9 t m (fI ls A part).2.1::bd m (fI ls A part).1::F) h':=by
 obtain ⟨qs,a,c,hq,H1⟩:=gy H
 apply EE.ap
 unfold Je
 have none_of:(part<0∨(ls.length:Int)≤part)→dD ls part=none:=fun hp=>by
  unfold dD;split
  · rfl
  · exact List.getElem?_eq_none_iff.2 (by omega)
 by_cases h1:part<0
 · rw [ah h1,ae];unfold fI;rw [none_of (.inl h1)];exact ⟨rfl,H⟩
 rw [af h1,ab,aK]
 refine bH (a:=a) (l:=ls.length) (m:=c) H1 rfl ?_
 by_cases h2:part≥(ls.length:Int)
 · rw [ah h2,ae];unfold fI;rw [none_of (.inr h2)];exact ⟨rfl,H⟩
 rw [af h2,ab,aK]
 refine bH (a:=a) (l:=ls.length) (m:=c) H1 rfl ?_
 obtain ⟨i,rfl⟩:∃ i:Nat,part=(i:Int):=⟨part.toNat,by omega⟩
 obtain ⟨q,hqi⟩:∃ q,qs[i]? = some q:=⟨_,ai (by omega)⟩
 obtain ⟨L,hL⟩:∃ L,ls[i]? = some L:=⟨_,ai (by omega)⟩
 refine bj (v:=aM q) (aH (H1.mv 1)) (by rw [aq]; exact hq) (by rw [List.getElem?_map,hqi]; rfl) fun b hb hc=>⟨_,hc,?_⟩
 show DP (.pointer (some ⟨q,0,none⟩)) _
 rw [bo]
 have e:dD ls (i:Int)=some L:=by
  unfold dD;rw [am (by omega),Int.toNat_natCast,hL]
 obtain ⟨R,H3,back⟩:=kK hqi hL (H1.mv 2)
 have IL:=I.2 L (aj hL)
 refine (pS W (by omega) IL.small (H3.ordT 5 [0,4,1,2,3])).mono ?_
 rintro v h3 ⟨rfl,H5⟩
 rw [aL]
 unfold fI
 rw [e]
 dsimp only
 rw [Int.toNat_natCast]
 refine ⟨rfl,?_⟩
 have H6:=back _ _ _ (H5.ordT 5 [0,2,3,4,1])
 refine jl (qs:=qs) (a:=a) (c:=c) (by rw [length_set]; exact hq) ?_
 rw [length_set]
 exact H6.ordT 3 [1,2,0]
theorem sj {qs:List Nat} {a:Option Addr} {c i:Nat} {L:aU} {G:List aF} {K:Int→Prop} (hq:qs.length=ls.length) (hL:ls[i]? = some L)
  (H:aG (pt t (.cells #[.slice a ls.length c] 112 (0,0))::aQ 113 1 a ls.length c (qs.map aM)::bP (nR m qs ls)::G) h) (hK:K (L.dur:Int)) :
  aO a ls.length (i:Int) 1 fun a3=>Ld h a3 fun v3=>DP v3 fun x4=>aR x4 fun a4=>Ld h (a4.add 5) fun v4=>DI .i64 v4 K:=by
 have hlt:=(ak.1 hL).1
 obtain ⟨q,hqi⟩:∃ q,qs[i]? = some q:=⟨_,ai (by omega)⟩
 refine bj (v:=aM q) (aH (H.mv 1)) (by rw [aq]; exact hq) (by rw [List.getElem?_map,hqi]; rfl) fun b hb hc=>⟨_,hc,?_⟩
 show DP (.pointer (some ⟨q,0,none⟩)) _
 rw [bo,aK]
 obtain ⟨R,H3,_⟩:=kK hqi hL (H.mv 2)
 obtain ⟨pa,pc,H4⟩:=fX H3
 exact bM (x:=(L.dur:Int)) H4 rfl hK
theorem ud {rs:List Rg} {a:Option Addr} {n c:Nat} (hr:cv h a (rs.flatMap fh)) (hn:rs.length=n) (hm:n<1099511627776) (hl:ls.length≤4) (H:aG (d9 t m ls::F) h) :
  aE prog 47 [aM t,.slice a n c] h fun v h'=>v=.int .i64 (cH ls rs:Int)∧h'=h:=by
 obtain ⟨qs,sa,sc,hq,H1⟩:=gy H
 apply Et.ap
 unfold I4
 refine (zM hr hn).mono ?_
 rintro v h2 ⟨rfl,rfl⟩
 rw [bO]
 cases hrt:cx rs with
 | false=>
   simp only [aC,ae];have:cH ls rs=80:=an (.inl hrt);rw [this];exact ⟨rfl,by trivial⟩
 | true=>
   simp only [aB,ab,aK];refine bH (a:=sa) (l:=ls.length) (m:=sc) H1 rfl ?_;by_cases hlen:n=ls.length
   rotate_left
   · rw [show (((n:Nat):Int)!=(ls.length:Int))=true from by rw [bne_iff_ne]; omega,ae];have:cH ls rs=80:=an (.inr (by omega));rw [this];exact ⟨rfl,by trivial⟩
   rw [show (((n:Nat):Int)!=(ls.length:Int))=false from by rw [hlen]; simp,ab];have hw:cH ls rs=if AF.over ls rs then 101 else 0:=am (by rw [hrt]; rintro (h | h); cases h; omega)
   refine ⟨fun st hh=>hh=h2∧∃ i:Nat,st=(i:Int)∧i≤n∧∀ (j:Nat) (x:Rg) (L:aU),j<i→rs[j]? = some x→ls[j]? = some L→¬ (L.dur:Int)<x.2,fun st _=>((n:Int) - st).toNat,⟨rfl,0,rfl,aw _,fun j x L hj=>by omega⟩,?_⟩;rintro st h5 ⟨rfl,i,rfl,hi,hno⟩;by_cases hil:i<n
   rotate_left
   · rw [af (by omega),ab,hw,vB (by omega) (fun j x L hx hL=>hno j x L (by have:=(ak.1 hx).1; omega) hx hL)];exact ⟨rfl,rfl⟩
   rw [ah (show ((i:Int)<(n:Int)) by omega),ae];obtain ⟨L,hL⟩:∃ L,ls[i]? = some L:=⟨_,ai (by omega)⟩
   obtain ⟨x,hx⟩:∃ x,rs[i]? = some x:=⟨_,ai (by omega)⟩
   refine dp (f:=fh) (fun _=>rfl) (by decide) hr hn hx fun _ _ hc=>CI (hc 1 _ rfl) ?_;refine bH (a:=sa) (l:=ls.length) (m:=sc) H1 rfl ?_;refine sj hq hL H1 ?_;by_cases ho:x.2>(L.dur:Int)
   · rw [ah ho,ae,hw,oS hx hL ho];exact ⟨rfl,rfl⟩
   rw [af ho,ab];refine ⟨⟨rfl,i+1,by rw [IntWalk.i64_in _ (by omega)]; rfl,by omega,fun j y M hj hy hM=>?_⟩,by rw [IntWalk.i64_in _ (by omega)]; show ((n:Int) - ((i:Int)+1)).toNat<((n:Int) - (i:Int)).toNat; omega⟩;by_cases hji:j=i
   · subst hji;rw [hx] at hy;rw [hL] at hM;cases hy;cases hM;omega
   · exact hno j y M (by omega) hy hM
end
end Go.Proofs.YtdpaiiibndnanaaGreatDoor
