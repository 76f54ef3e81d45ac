/- A source of two parts,the chapter's example (seat D). -/
import Derived.Test.YtdpaiiibndnanaaGreatDoorQpDl2
import Derived.Test.YtdpaiiibndnanaaGreatDoorQpItoaL
import Derived.Test.YtdpaiiibndnanaaGreatDoorQpSgH
namespace Go.Proofs.YtdpaiiibndnanaaGreatDoor
open Go.IntKind (wrap)
open Go.Proofs.Tryz (prog)
open Go Go.RowKit
open Dl (LP bC cnt bF j4 Fits)
set_option linter.unusedVariables false
set_option linter.unusedSimpArgs false
set_option maxRecDepth 8000
theorem pU {i:Nat} {h:Heap} (hi:i<100):aE prog 36 [.int .i64 (i:Int)] h fun v h'=>v=.string ⟨(Lib.decDigits i).toArray⟩∧h'=h:=by
 refine ⟨by kernel_rfl,fun w hw=>callsIn_wide.2 ((Tryz.strconv_Itoa_small i hi w).mono ?_)⟩
 rintro e w' ⟨rfl,rfl⟩
 exact ⟨_,rfl,⟨rfl,hw⟩,⟨rfl,rfl,rfl⟩⟩
abbrev p0:ByteArray:=⟨#[112,48]⟩
abbrev p1:ByteArray:=⟨#[112,49]⟩
theorem HW:(⟨#[112]⟩:ByteArray)++⟨(Lib.decDigits 0).toArray⟩=p0:=by
 rw [Lib.decDigits]
 decide
theorem HV:(⟨#[112]⟩:ByteArray)++⟨(Lib.decDigits 1).toArray⟩=p1:=by
 rw [Lib.decDigits]
 decide
abbrev Hw:AF.FS:=⟨1000,0,none,false,[],[]⟩
abbrev Hv:AF.FS:=⟨1000,1,none,false,[],[⟨p0,[],[],[]⟩]⟩
abbrev E7:AF.FS:=⟨1000,2,none,false,[],[⟨p0,[],[],[]⟩,⟨p1,[],[],[]⟩]⟩
theorem Fk:AF.FS.prep Hw p0=(Hv,.ok []):=by kernel_rfl
theorem Fj:AF.FS.prep Hv p1=(E7,.ok []):=by kernel_rfl
abbrev lg (d:ByteArray):AF.aU:=⟨d,100,[],0,0⟩
abbrev qo (s l0 l1:Nat):aF:=pt s (.cells #[aM l0,aM l1,.pointer none,.pointer none,.int .i64 2] 93 (0,0))
theorem Iv:((2:Int) - wrap .i64 (0+1)).toNat<((2:Int) - 0).toNat:=by decide
theorem Iu:((2:Int) - wrap .i64 (1+1)).toNat<((2:Int) - 1).toNat:=by decide
section
variable {h:Heap} {F:List aF} {s l0 l1 b:Nat}
theorem Cl (H:aG (bV b Hw::F) h):aE prog 13 [aM b,.int .i64 2,.int .i64 100] h fun v h'=>∃ s l0 l1,v=.tuple #[aM s,.int .i64 0]∧E7.WF∧aG (qo s l0 l1::cy l0 b (lg p0)::cy l1 b (lg p1)::bV b E7::F) h':=by
 apply Aa.ap
 unfold Ik
 rw [show decide ((2:Int)<1)=false from rfl,ab,show decide ((2:Int)>4)=false from rfl,ab]
 refine aW H fun s h1 H1=>?_
 have W0:Hw.WF:=yK (by decide)
 refine ⟨fun st hh=>(st=0∧aG (pt s (.cells #[.pointer none,.pointer none,.pointer none,.pointer none,.int .i64 2] 93 (0,0))::bV b Hw::F) hh)∨
  (st=1∧Hv.WF∧∃ l0,aG (pt s (.cells #[aM l0,.pointer none,.pointer none,.pointer none,.int .i64 2] 93 (0,0))::cy l0 b (lg p0)::bV b Hv::F) hh)∨
  (st=2∧E7.WF∧∃ l0 l1,aG (qo s l0 l1::cy l0 b (lg p0)::cy l1 b (lg p1)::bV b E7::F) hh),fun st _=>((2:Int) - st).toNat,.inl ⟨rfl,H1⟩,?_⟩
 rintro st h2 (⟨rfl,H2⟩ | ⟨rfl,W1,l0,H2⟩ | ⟨rfl,W2,l0,l1,H2⟩)
 · rw [show decide ((0:Int)<2)=true from rfl,ae];refine (pU (i:=0) (by decide)).mono ?_;rintro v h3 ⟨rfl,rfl⟩;rw [aT,HW];refine ⟨by rw [show (⟨(Lib.decDigits 0).toArray⟩:ByteArray)=⟨#[48]⟩ from by rw [Lib.decDigits]; rfl]; decide,?_⟩;refine (rt (size:=100) (dir:=p0) (by decide) (by decide) W0 (by decide) (by decide) Fk (H2.mv 1)).mono ?_;rintro v h4 ⟨lb,rfl,W1,_,H4⟩;refine ⟨some ⟨lb,0,none⟩,0,rfl,?_⟩;rw [show ((0:Int)!=0)=false from rfl,ab];refine ⟨by decide,by decide,?_⟩;refine ct (b:=s) (i:=0) (H4.mv 2) (show (0:Nat)<5 by decide) rfl fun h5 H5=>?_;exact ⟨.inr (.inl ⟨rfl,W1,lb,H5⟩),Iv⟩
 · rw [show decide ((1:Int)<2)=true from rfl,ae];refine (pU (i:=1) (by decide)).mono ?_;rintro v h3 ⟨rfl,rfl⟩;rw [aT,HV];refine ⟨by rw [show (⟨(Lib.decDigits 1).toArray⟩:ByteArray)=⟨#[49]⟩ from by rw [Lib.decDigits]; rfl]; decide,?_⟩;refine (rt (size:=100) (dir:=p1) (by decide) (by decide) W1 (by decide) (by decide) Fj (H2.mv 2)).mono ?_;rintro v h4 ⟨lb,rfl,W2,_,H4⟩;refine ⟨some ⟨lb,0,none⟩,0,rfl,?_⟩;rw [show ((0:Int)!=0)=false from rfl,ab];refine ⟨by decide,by decide,?_⟩;refine ct (b:=s) (i:=1) (H4.mv 2) (show (1:Nat)<5 by decide) rfl fun h5 H5=>?_;exact ⟨.inr (.inr ⟨rfl,W2,l0,lb,H5.ordT 4 [0,3,1,2]⟩),Iu⟩
 · rw [show decide ((2:Int)<2)=false from rfl,ab];exact ⟨s,l0,l1,rfl,W2,H2⟩
theorem vV (H:aG (qo s l0 l1::F) h):aE prog 37 [aM s,.int .i64 1] h fun v h'=>v=.tuple #[aM l1,.int .i64 0]∧h'=h:=by
 apply zN.ap
 unfold If
 rw [show (some (⟨s,0,none⟩:Addr)).isNone=false from rfl,ab,show decide ((1:Int)<0)=false from rfl,ab]
 rw [aK]
 refine dX (v:=.int .i64 2) H rfl ?_
 rw [aL,show decide ((1:Int)≥2)=false from rfl,ab,aK]
 refine ⟨by decide,by decide,?_⟩
 rw [aP]
 refine dX (i:=1) (v:=aM l1) H rfl ?_
 show DP (.pointer (some ⟨l1,0,none⟩)) _
 rw [bo]
 exact ⟨rfl,by trivial⟩
theorem BQ {L0 L1:AF.aU} (H:aG (qo s l0 l1::cy l0 b L0::cy l1 b L1::F) h):aE prog 21 [aM s] h fun v h'=>∃ a,v=.slice a 2 2∧aG (aQ 2 1 a 2 2 [iv (L0.dur:Int),iv (L1.dur:Int)]::qo s l0 l1::cy l0 b L0::cy l1 b L1::F) h':=by
 apply zW.ap
 unfold Ih
 rw [show (some (⟨s,0,none⟩:Addr)).isNone=false from rfl,ab,aK]
 refine dX (v:=.int .i64 2) H rfl ?_
 rw [aL]
 refine kj (e:=2) (n:=2) (by kernel_rfl) (by kernel_rfl) (by decide) H fun a h1 H1=>?_
 rw [aI]
 refine ⟨fun st hh=>(st=0∧aG (aQ 2 1 a 2 2 [iv 0,iv 0]::qo s l0 l1::cy l0 b L0::cy l1 b L1::F) hh)∨
  (st=1∧aG (aQ 2 1 a 2 2 [iv (L0.dur:Int),iv 0]::qo s l0 l1::cy l0 b L0::cy l1 b L1::F) hh)∨
  (st=2∧aG (aQ 2 1 a 2 2 [iv (L0.dur:Int),iv (L1.dur:Int)]::qo s l0 l1::cy l0 b L0::cy l1 b L1::F) hh),fun st _=>((2:Int) - st).toNat,.inl ⟨rfl,H1⟩,?_⟩
 rintro st h2 (⟨rfl,H2⟩ | ⟨rfl,H2⟩ | ⟨rfl,H2⟩)
 · rw [show decide ((0:Int)<((2:Nat):Int))=true from rfl,ae,aK];refine ⟨by decide,by decide,?_⟩;rw [aP];refine dX (i:=0) (v:=aM l0) (H2.mv 1) rfl ?_;show DP (.pointer (some ⟨l0,0,none⟩)) _;rw [bo];refine (pT (H2.mv 2)).mono ?_;rintro v h3 ⟨rfl,rfl⟩;rw [aL];refine bj (i:=0) (v:=iv 0) (aH H2) rfl rfl fun b2 hb2 _=>?_;subst hb2;rw [aP];refine cO H2 (by decide) fun h4 H4=>⟨.inr (.inl ⟨rfl,H4⟩),Iv⟩
 · rw [show decide ((1:Int)<((2:Nat):Int))=true from rfl,ae,aK];refine ⟨by decide,by decide,?_⟩;rw [aP];refine dX (i:=1) (v:=aM l1) (H2.mv 1) rfl ?_;show DP (.pointer (some ⟨l1,0,none⟩)) _;rw [bo];refine (pT (H2.mv 3)).mono ?_;rintro v h3 ⟨rfl,rfl⟩;rw [aL];refine bj (i:=1) (v:=iv 0) (aH H2) rfl rfl fun b2 hb2 _=>?_;subst hb2;rw [aP];refine cO H2 (Nat.lt_succ_self 1) fun h4 H4=>⟨.inr (.inr ⟨rfl,H4⟩),Iu⟩
 · rw [show decide ((2:Int)<((2:Nat):Int))=false from rfl,ab];exact ⟨a,rfl,H2⟩
abbrev fh (p:Int×Int):List Value:=[iv p.1,iv p.2]
theorem jF {rs:List (Int×Int)} {a1 a2:Option Addr} {n c1 c2:Nat} (h1:cv h a1 (rs.flatMap fh)) (h2:cv h a2 (rs.flatMap fh)) (hn:rs.length=n) (hm:n<1099511627776) :
  aE prog 28 [.slice a1 n c1,.slice a2 n c2] h fun v h'=>v=.bool true∧h'=h:=by
 apply EC.ap
 unfold Jc
 rw [show (((n:Nat):Int)!=(n:Int))=false from by simp,ab]
 refine ⟨fun st hh=>hh=h∧∃ i:Nat,st=(i:Int)∧i≤n,fun st _=>((n:Int) - st).toNat,⟨rfl,0,rfl,aw _⟩,?_⟩
 rintro st h3 ⟨rfl,i,rfl,hi⟩
 by_cases hlt:i<n
 · rw [ah (show ((i:Int)<(n:Int)) by omega),ae];obtain ⟨x,hx⟩:∃ x,rs[i]? = some x:=⟨_,ai (by omega)⟩
   refine dp (f:=fh) (fun _=>rfl) (by decide) h1 hn hx fun _ _ hc=>⟨_,hc 0 _ rfl,_,hc 1 _ rfl,x.1,x.2,rfl,?_⟩
   refine dp (f:=fh) (fun _=>rfl) (by decide) h2 hn hx fun _ _ hc=>⟨_,hc 0 _ rfl,_,hc 1 _ rfl,x.1,x.2,rfl,?_⟩
   rw [show (!(((x.1:Int)==x.1)&&(((x.2:Int)==x.2)&&true)))=false from by simp,ab,aN (by omega)];exact ⟨⟨by trivial,i+1,rfl,by omega⟩,by show ((n:Int) - ((i+1:Nat):Int)).toNat<((n:Int) - (i:Int)).toNat; omega⟩
 · rw [af (by omega),ab];exact ⟨rfl,by trivial⟩
end
end Go.Proofs.YtdpaiiibndnanaaGreatDoor
