/- A source: Open,log,Append,Sync,Parts,Ends. -/
import Derived.Test.YtdpaiiibndnanaaGreatDoorQpSo4
import Derived.Test.YtdpaiiibndnanaaGreatDoorQpSo2
import Derived.Test.YtdpaiiibndnanaaGreatDoorQpDl3
namespace Go.Proofs.YtdpaiiibndnanaaGreatDoor
open Go.Proofs.Tryz (prog)
open List (append_assoc map_append append_nil zipWith zipWith_append take_length length_set length_replicate)
open Go Go.RowKit
set_option linter.unusedVariables false
set_option linter.unusedSimpArgs false
open AF (aU cG Gr pK eY dD iS fI e9)
theorem aG.shut1 {X:aF} {R G:List aF} {h:Heap} (H:aG (X::(R++G)) h):aG (X::bP R::G) h:=
 let ⟨r,hr,hs⟩:=H; ⟨r,cY (fun _ h=>h) (fun _ h=>bQ.1 h) hr,hs⟩
theorem aG.open1 {X:aF} {R G:List aF} {h:Heap} (H:aG (X::bP R::G) h):aG (X::(R++G)) h:=
 let ⟨r,hr,hs⟩:=H; ⟨r,cY (fun _ h=>h) (fun _ h=>bQ.2 h) hr,hs⟩
def wN (fb:Nat) (qs:List Nat) (ls:List aU):List aF:=zipWith (fun a L=>cy a fb L) qs ls
theorem mj {fb i a:Nat} {qs:List Nat} {ls:List aU} {L:aU} {G:List aF} {h:Heap} (ha:qs[i]? = some a) (hL:ls[i]? = some L) (H:aG (bP (wN fb qs ls)::G) h) :
  ∃ R:aF,aG (cy a fb L::R::G) h∧∀ L' G' h',aG (cy a fb L'::R::G') h'→aG (bP (wN fb qs (ls.set i L'))::G') h':=by
 refine ⟨bP ((wN fb qs ls).eraseIdx i),(pn (E:=fun a L=>cy a fb L) H.open ha hL).shut1,fun L' G' h' H'=>?_⟩
 exact (sM (E:=fun a L=>cy a fb L) ha (ak.1 hL).1 (y:=L') H'.open1).shut
def ux (qs:List Nat) (i:Nat):Value:=.pointer ((qs[i]?).map fun b=>⟨b,0,none⟩)
def lz (qs:List Nat) (n:Nat):Array Value:=#[ux qs 0,ux qs 1,ux qs 2,ux qs 3,.int .i64 (n:Int)]
theorem mH {qs:List Nat} {i a:Nat} (h:qs[i]? = some a):ux qs i=aM a:=by unfold ux; rw [h]; rfl
theorem ou {qs:List Nat} {n i:Nat} (hi:i<4):(lz qs n)[i]? = some (ux qs i):=by
 match i,hi with
 | 0,_=>rfl
 | 1,_=>rfl
 | 2,_=>rfl
 | 3,_=>rfl
theorem yh {qs:List Nat} {n b:Nat} (h:qs.length<4):(lz qs n).setIfInBounds qs.length (aM b)=lz (qs++[b]) n:=by
 rcases qs with _ | ⟨a0,_ | ⟨a1,_ | ⟨a2,_ | ⟨a3,qs⟩⟩⟩⟩
 · rfl
 · rfl
 · rfl
 · rfl
 · simp at h; omega
def dN (s fb:Nat) (ls:List aU):aF:=pZ fun qs:List Nat=>bP [lY (qs.length=ls.length),pt s (.cells (lz qs ls.length) 93 (0,0)),bP (wN fb qs ls)]
section
variable {s fb:Nat} {ls:List aU} {A:AF.FS} {F:List aF} {h:Heap} {k:Nat}
theorem gz (H:aG (dN s fb ls::F) h):∃ qs:List Nat,qs.length=ls.length∧aG (pt s (.cells (lz qs ls.length) 93 (0,0))::bP (wN fb qs ls)::F) h:=by
 obtain ⟨qs,H1⟩:=bD.1 H
 obtain ⟨e,H2⟩:=cE.1 H1.open
 exact ⟨qs,e,H2⟩
theorem jn {qs:List Nat} (e:qs.length=ls.length) (H:aG (pt s (.cells (lz qs ls.length) 93 (0,0))::bP (wN fb qs ls)::F) h):aG (dN s fb ls::F) h:=
 bD.2 ⟨qs,aG.shut (m:=[lY (qs.length=ls.length),pt s (.cells (lz qs ls.length) 93 (0,0)),bP (wN fb qs ls)]) (cE.2 ⟨e,H⟩)⟩
theorem HU {i:Nat} (h:i<4):(⟨#[112]⟩:ByteArray)++⟨(Lib.decDigits i).toArray⟩=pK i:=by
 match i,h with
 | 0,_=>rw [Lib.decDigits]; rfl
 | 1,_=>rw [Lib.decDigits]; rfl
 | 2,_=>rw [Lib.decDigits]; rfl
 | 3,_=>rw [Lib.decDigits]; rfl
theorem wZ {i:Nat} (h:i<4):(⟨(Lib.decDigits i).toArray⟩:ByteArray).size=1:=by
 match i,h with
 | 0,_=>rw [Lib.decDigits]; rfl
 | 1,_=>rw [Lib.decDigits]; rfl
 | 2,_=>rw [Lib.decDigits]; rfl
 | 3,_=>rw [Lib.decDigits]; rfl
def DW (fb:Nat) (r:AF.FS×Except Nat (List aU)) (F:List aF) (v:Value) (h':Heap):Prop:=
 (∃ s ls,r.2=.ok ls∧v=.tuple #[aM s,.int .i64 0]∧aG (dN s fb ls::bV fb r.1::F) h')∨
 (∃ e:Nat,r.2=.error e∧e≠0∧v=.tuple #[.pointer none,.int .i64 (e:Int)]∧aG (bV fb r.1::F) h')
set_option maxHeartbeats 1000000 in
theorem wd {parts size:Int} (W:A.WF) (hs:A.steps+100000<1099511627776) (H:aG (bV fb A::F) h) :
  aE prog 13 [aM fb,.int .i64 parts,.int .i64 size] h fun v h'=>DW fb (A.openSrc parts size) F v h':=by
 apply Aa.ap
 unfold Ik
 by_cases h1:parts<1
 · rw [ah h1,ae];have e:A.openSrc parts size=(A,.error 110):=by unfold AF.FS.openSrc; rw [an (.inl h1)]
   rw [e];exact .inr ⟨110,rfl,by decide,rfl,H⟩
 rw [af h1,ab]
 by_cases h2:4<parts
 · rw [ah (show parts>4 from h2),ae];have e:A.openSrc parts size=(A,.error 110):=by unfold AF.FS.openSrc; rw [an (.inr h2)]
   rw [e];exact .inr ⟨110,rfl,by decide,rfl,H⟩
 rw [af (show ¬ parts>4 from h2),ab]
 obtain ⟨n,rfl⟩:∃ n:Nat,parts=(n:Int):=⟨parts.toNat,by omega⟩
 have eo:A.openSrc (n:Int) size=eY size n 0 A []:=by
  unfold AF.FS.openSrc;rw [am (by omega),Int.toNat_natCast]
 rw [eo]
 refine aW H fun s h3 H3=>?_
 refine ⟨fun st hh=>∃ (i:Nat) (qs:List Nat) (ls:List aU) (B:AF.FS),st=(i:Int)∧i≤n∧qs.length=i∧ls.length=i∧eY size n 0 A []=eY size (n - i) i B ls∧B.WF∧B.steps≤A.steps+9000*i∧
   aG (pt s (.cells (lz qs n) 93 (0,0))::bV fb B::bP (wN fb qs ls)::F) hh,
  fun st _=>((n:Int) - st).toNat,⟨0,[],[],A,rfl,aw _,rfl,rfl,rfl,W,ax _,?_⟩,?_⟩
 · exact (aG.shut (m:=[]) (H3.ordT 2 [0,1])).ordT 3 [1,2,0]
 rintro st h4 ⟨i,qs,ls,B,rfl,hi,ha,hls,ego,WB,sB,H4⟩
 by_cases hil:i<n
 rotate_left
 · have:i=n:=by omega
   subst this;rw [af (by omega),ab,ego,Nat.sub_self];refine .inl ⟨s,ls,rfl,rfl,?_⟩;refine (jn (qs:=qs) (by omega) ?_);rw [hls];exact H4.ordT 3 [0,2,1]
 rw [ah (show ((i:Int)<(n:Int)) by omega),ae]
 have hi4:i<4:=by omega
 refine (pU (i:=i) (by omega)).mono ?_
 rintro v h5 ⟨rfl,rfl⟩
 rw [aT,HU hi4]
 refine ⟨by rw [wZ hi4]; decide,?_⟩
 refine (BL (dir:=pK i) (size:=size) WB (by omega) (by rw [AF.mc]; decide) (H4.mv 1)).mono ?_
 obtain ⟨W1,G1,_⟩:=AF.oU (size:=size) WB (dir:=pK i) (by rw [AF.mc]; decide)
 have g1:=G1.1
 have estep:eY size (n - i) i B ls=match (B.openL (pK i) size).2 with
  | .error e=>((B.openL (pK i) size).1,.error e)
  | .ok L=>eY size (n - (i+1)) (i+1) (B.openL (pK i) size).1 (ls++[L]):=by
  rw [show n - i=(n - (i+1))+1 by omega]
  rfl
 rintro v h6 (⟨lb,L,ho,rfl,H6⟩ | ⟨e,ho,e0,rfl,H6⟩)
 · refine ⟨_,0,rfl,?_⟩;rw [show ((0:Int)!=0)=false from rfl,ab];refine ⟨by omega,by omega,?_⟩;simp only [aP,Int.toNat_natCast,Nat.mul_one];have g9:(B.openL (pK i) size).1.steps≤A.steps+9000*(i+1):=by
    clear hs;have:B.steps+9000≤A.steps+9000*(i+1):=by rw [Nat.mul_add,Nat.mul_one,← Nat.add_assoc]; exact Nat.add_le_add_right sB _
    exact Nat.le_trans g1 this
   subst ha;refine ct (b:=s) (c':=lz (qs++[lb]) n) (H6.mv 2) (by show qs.length<5; omega) (yh hi4) fun h7 H7=>?_;refine ⟨⟨qs.length+1,qs++[lb],ls++[L],(B.openL (pK qs.length) size).1,by rw [IntWalk.i64_in _ (by omega)]; rfl,by omega,by rw [ao]; rfl,by rw [ao,hls]; rfl,by rw [ego,estep,ho],W1,g9,?_⟩,by
    rw [IntWalk.i64_in _ (by omega)]; show ((n:Int) - ((qs.length:Int)+1)).toNat<((n:Int) - (qs.length:Int)).toNat; omega⟩
   have H8:=(H7.ordT 4 [3,1,0,2]).open;have e:wN fb (qs++[lb]) (ls++[L])=wN fb qs ls++[cy lb fb L]:=by
    unfold wN;rw [zipWith_append hls.symm]
    rfl
   have H9:aG (wN fb (qs++[lb]) (ls++[L])++(pt s (.cells (lz (qs++[lb]) n) 93 (0,0))::bV fb (B.openL (pK qs.length) size).1::F)) h7:=by
    rw [e,append_assoc];exact H8
   exact H9.shut.ordT 3 [1,2,0]
 · refine ⟨none,_,rfl,?_⟩;rw [aX e0,ae,ego,estep,ho];exact .inr ⟨e,rfl,e0,rfl,H6.ordT 3 [0]⟩
theorem ug {qs:List Nat} {n:Nat} {part:Int} {G:List aF} (ha:qs.length=n) (hn:n≤4) (H:aG (pt s (.cells (lz qs n) 93 (0,0))::G) h) :
  aE prog 37 [aM s,.int .i64 part] h fun v h'=>h'=h∧(((part<0∨(n:Int)≤part)∧v=.tuple #[.pointer none,.int .i64 110])∨(∃ (i a:Nat),part=(i:Int)∧qs[i]? = some a∧v=.tuple #[aM a,.int .i64 0])):=by
 apply zN.ap
 unfold If
 rw [show (some (⟨s,0,none⟩:Addr)).isNone=false from rfl,ab]
 by_cases h1:part<0
 · rw [ah h1,ae];exact ⟨rfl,.inl ⟨.inl h1,rfl⟩⟩
 rw [af h1,ab,aK]
 refine dX (v:=.int .i64 (n:Int)) H rfl ?_
 rw [aL]
 by_cases h2:part≥(n:Int)
 · rw [ah h2,ae];exact ⟨rfl,.inl ⟨.inr h2,rfl⟩⟩
 rw [af h2,ab,aK]
 obtain ⟨i,rfl⟩:∃ i:Nat,part=(i:Int):=⟨part.toNat,by omega⟩
 refine ⟨by omega,by omega,?_⟩
 obtain ⟨a,haI⟩:∃ a,qs[i]? = some a:=⟨_,ai (by omega)⟩
 rw [aP,Int.toNat_natCast,Nat.mul_one]
 refine dX (i:=i) (v:=aM a) H (by rw [ou (by omega),mH haI]) ?_
 show DP (.pointer (some ⟨a,0,none⟩)) _
 rw [bo]
 exact ⟨rfl,.inr ⟨i,a,rfl,haI,rfl⟩⟩
theorem Cg {ba:Option Addr} {bl bc:Nat} {bs:List Nat} {part:Int} (W:A.WF) (hs:A.steps+4<1099511627776) (I:e9 k ls) (hk:k+1<100000) (hr:∀ h',aG F h'→cv h' ba (bs.map nv)) (h8:B8 bs) (hl:bs.length=bl)
  (H:aG (dN s fb ls::bV fb A::F) h) :
  aE prog 14 [aM s,.int .i64 part,.slice ba bl bc] h fun v h'=>v=gJ (iS ls A part bs).2.2∧aG (dN s fb (iS ls A part bs).2.1::bV fb (iS ls A part bs).1::F) h':=by
 obtain ⟨qs,ha,H1⟩:=gz H
 apply zZ.ap
 unfold Ij
 refine (ug ha I.1 H1).mono ?_
 rintro v h2 ⟨rfl,⟨hp,rfl⟩ | ⟨i,a,rfl,hai,rfl⟩⟩
 · have e:dD ls part=none:=by
    unfold dD;split
    · rfl
    · exact List.getElem?_eq_none_iff.2 (by omega)
   refine ⟨none,110,rfl,?_⟩;unfold iS;rw [show ((110:Int)!=0)=true from rfl,ae,e];exact ⟨rfl,H⟩
 · obtain ⟨L,hL⟩:∃ L,ls[i]? = some L:=⟨_,ai (by have:=(ak.1 hai).1; omega)⟩
   have e:dD ls (i:Int)=some L:=by
    unfold dD;rw [am (by omega),Int.toNat_natCast,hL]
   refine ⟨_,0,rfl,?_⟩;rw [show ((0:Int)!=0)=false from rfl,ab];obtain ⟨R,H3,back⟩:=mj hai hL (H1.mv 1);have IL:=I.2 L (aj hL);have H4:=H3.ordT 4 [0,3,1,2];refine (uf (bs:=bs) W hs IL.small hk (fun h' H'=>hr h' H'.drop.drop) h8 hl H4).mono ?_;rintro v h3 ⟨rfl,H5⟩;unfold iS;rw [e];dsimp only;have fin:aG (dN s fb (ls.set i (L.append A bs).2.1)::bV fb (L.append A bs).1::F) h3:=by
    have H6:=back _ _ _ (H5.ordT 4 [0,2,3,1]);refine jn (qs:=qs) (by rw [length_set]; exact ha) ?_;rw [length_set];exact H6.ordT 2 [1,0]
   rw [Int.toNat_natCast]
   cases hr2:(L.append A bs).2.2 with
   | ok n=>exact ⟨(n:Int),0,rfl,rfl,fin⟩
   | error x=>exact ⟨0,(x:Int),rfl,rfl,fin⟩
theorem B3 {part:Int} (W:A.WF) (hs:A.steps+4<1099511627776) (I:e9 k ls) (H:aG (dN s fb ls::bV fb A::F) h) :
  aE prog 15 [aM s,.int .i64 part] h fun v h'=>v=.int .i64 ((fI ls A part).2.2:Int)∧aG (dN s fb (fI ls A part).2.1::bV fb (fI ls A part).1::F) h':=by
 obtain ⟨qs,ha,H1⟩:=gz H
 apply zY.ap
 unfold Ii
 refine (ug ha I.1 H1).mono ?_
 rintro v h2 ⟨rfl,⟨hp,rfl⟩ | ⟨i,a,rfl,hai,rfl⟩⟩
 · have e:dD ls part=none:=by
    unfold dD;split
    · rfl
    · exact List.getElem?_eq_none_iff.2 (by omega)
   refine ⟨none,110,rfl,?_⟩;unfold fI;rw [show ((110:Int)!=0)=true from rfl,ae,e];exact ⟨rfl,H⟩
 · obtain ⟨L,hL⟩:∃ L,ls[i]? = some L:=⟨_,ai (by have:=(ak.1 hai).1; omega)⟩
   have e:dD ls (i:Int)=some L:=by
    unfold dD;rw [am (by omega),Int.toNat_natCast,hL]
   refine ⟨_,0,rfl,?_⟩;rw [show ((0:Int)!=0)=false from rfl,ab];obtain ⟨R,H3,back⟩:=mj hai hL (H1.mv 1);have IL:=I.2 L (aj hL);refine (kC W (by omega) IL.small (H3.ordT 4 [0,3,1,2])).mono ?_;rintro v h3 ⟨rfl,H5⟩;rw [aL];unfold fI;rw [e];dsimp only;rw [Int.toNat_natCast];refine ⟨rfl,?_⟩;have H6:=back _ _ _ (H5.ordT 4 [0,2,3,1]);refine jn (qs:=qs) (by rw [length_set]; exact ha) ?_;rw [length_set];exact H6.ordT 2 [1,0]
theorem zX (H:aG (dN s fb ls::F) h):aE prog 20 [aM s] h fun v h'=>v=.int .i64 (ls.length:Int)∧h'=h:=by
 obtain ⟨qs,ha,H1⟩:=gz H
 apply EI.ap
 unfold Ji
 rw [show (some (⟨s,0,none⟩:Addr)).isNone=false from rfl,ab,aK]
 refine dX (v:=.int .i64 (ls.length:Int)) H1 rfl ?_
 rw [aL]
 exact ⟨rfl,rfl⟩
abbrev p9 (ls:List aU):List Value:=ls.map fun L=>iv (L.dur:Int)
theorem pW (hn:ls.length≤4) (H:aG (dN s fb ls::F) h):aE prog 21 [aM s] h fun v h'=>∃ a,v=.slice a ls.length ls.length∧aG (aQ 2 1 a ls.length ls.length (p9 ls)::dN s fb ls::F) h':=by
 obtain ⟨qs,ha,H1⟩:=gz H
 apply zW.ap
 unfold Ih
 rw [show (some (⟨s,0,none⟩:Addr)).isNone=false from rfl,ab,aK]
 refine dX (v:=.int .i64 (ls.length:Int)) H1 rfl ?_
 rw [aL]
 refine kj (e:=2) (n:=ls.length) (by kernel_rfl) (by kernel_rfl) (by omega) H1 fun a h2 H2=>?_
 rw [aI]
 refine ⟨fun st hh=>∃ i:Nat,st=(i:Int)∧i≤ls.length∧aG (aQ 2 1 a ls.length ls.length (p9 (ls.take i)++List.replicate (ls.length - i) (iv 0))::pt s (.cells (lz qs ls.length) 93 (0,0))::bP (wN fb qs ls)::F) hh,
  fun st _=>((ls.length:Int) - st).toNat,⟨0,rfl,aw _,H2⟩,?_⟩
 rintro st h3 ⟨i,rfl,hi,H3⟩
 by_cases hil:i<ls.length
 rotate_left
 · have e:i=ls.length:=by omega
   rw [af (by omega),ab];rw [e,take_length,Nat.sub_self,List.replicate_zero,append_nil] at H3;exact ⟨a,rfl,(jn ha (H3.ordT 3 [1,2,0])).ordT 2 [1,0]⟩
 rw [ah (show ((i:Int)<(ls.length:Int)) by omega),ae,aK]
 refine ⟨by omega,by omega,?_⟩
 rw [aP,Int.toNat_natCast,Nat.mul_one]
 obtain ⟨b,hb⟩:∃ a,qs[i]? = some a:=⟨_,ai (by omega)⟩
 obtain ⟨L,hL⟩:∃ L,ls[i]? = some L:=⟨_,ai hil⟩
 refine dX (i:=i) (v:=aM b) (H3.mv 1) (by rw [ou (by omega),mH hb]) ?_
 show DP (.pointer (some ⟨b,0,none⟩)) _
 rw [bo]
 obtain ⟨R,H4,_⟩:=mj hb hL (H3.mv 2)
 refine (pT H4).mono ?_
 rintro v h4 ⟨rfl,rfl⟩
 rw [aL]
 have hlen:(p9 (ls.take i)).length=i:=by rw [aq,au]; omega
 have hrep:List.replicate (ls.length - i) (iv 0)=iv 0::List.replicate (ls.length - (i+1)) (iv 0):=by rw [show ls.length - i=(ls.length - (i+1))+1 by omega]; rfl
 have hget:(p9 (ls.take i)++List.replicate (ls.length - i) (iv 0))[i]? = some (iv 0):=by
  rw [hrep,List.getElem?_append_right (by omega),hlen,Nat.sub_self]
  rfl
 have hlall:(p9 (ls.take i)++List.replicate (ls.length - i) (iv 0)).length=ls.length:=by
  rw [ao,hlen,length_replicate]; omega
 refine bj (v:=iv 0) (aH H3) hlall hget fun b2 hb2 _=>?_
 subst hb2
 rw [aP]
 refine cO H3 (by omega) fun h5 H5=>?_
 rw [hrep,jI hlen] at H5
 refine ⟨⟨i+1,by rw [IntWalk.i64_in _ (by omega)]; rfl,by omega,?_⟩,by rw [IntWalk.i64_in _ (by omega)]; show ((ls.length:Int) - ((i:Int)+1)).toNat<((ls.length:Int) - (i:Int)).toNat; omega⟩
 have et:p9 (ls.take (i+1))=p9 (ls.take i)++[iv (L.dur:Int)]:=by
  unfold p9;rw [az,hL,map_append]
  rfl
 rw [et,append_assoc]
 exact H5
end
end Go.Proofs.YtdpaiiibndnanaaGreatDoor
