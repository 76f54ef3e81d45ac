/- The chapter's example of a source (seat D). -/
import Derived.Test.YtdpaiiibndnanaaGreatDoorQpDl3
namespace Go.Proofs.YtdpaiiibndnanaaGreatDoor
open Go.Proofs.Tryz (prog)
open List (mem_singleton)
open Go Go.RowKit
open Dl (LP bC cnt bF j4 Fits)
set_option linter.unusedVariables false
set_option linter.unusedSimpArgs false
set_option maxRecDepth 8000
theorem i4 {h:Heap} {a:Addr} {xs:List Value} {v:Value} {l i:Nat} (hr:cv h (some a) xs) (hl:xs.length=l) (hi:xs[i]? = some v):aO (some a) l (i:Int) 1 fun a4=>aJ (some (.pointer (some (a.add i)))) (.pointer (some a4)):=by
 refine bj hr hl hi fun b hb _=>?_
 cases hb
 rfl
theorem kl {h:Heap} {a:Addr} {xs:List Value} {x:Int} {i:Nat} (hr:cv h (some a) xs) (hi:xs[i]? = some (iv x)):Ld h (a.add i) fun v=>DI .i64 v fun y=>aJ (some (.int .i64 x)) (.int .i64 y):=
 CI (hr i _ hi) rfl
abbrev C2:AF.FS×AF.aU×Except Nat Nat:=(lg p1).append E7 [120]
theorem DT:C2.2.2=.ok 0:=by kernel_rfl
abbrev Fd:AF.FS×Nat:=C2.2.1.sync C2.1
theorem Dg:Fd.2=0:=by kernel_rfl
theorem Ar:(C2.2.1.synced Fd.2).dur=1:=by kernel_rfl
theorem zc {l:LP} (h:j4 (zs [5,1,9]) 7 l):l=[(5,3),(1,1),(9,3)]:=
 h.uniq (.step (by decide) (by decide) (.step (by decide) (by decide) (.step (by decide) (by decide) (.done (by decide)))))
section
variable {h:Heap} {F:List aF} {s l0 l1 b:Nat} {L0 L1:AF.aU}
theorem pw (d0:L0.dur=0) (d1:L1.dur=1) (H:aG (qo s l0 l1::cy l0 b L0::cy l1 b L1::F) h):aE prog 21 [aM s] h fun v h'=>∃ a,v=.slice (some a) 2 2∧aG (aQ 2 1 (some a) 2 2 [iv 0,iv 1]::qo s l0 l1::cy l0 b L0::cy l1 b L1::F) h':=by
 refine (BQ H).mono ?_
 rintro v h' ⟨a,rfl,H1⟩
 rw [d0,d1] at H1
 obtain ⟨_,⟨_,h0,_⟩ | ⟨b2,_,_,rfl,_⟩⟩:=dB H1
 · cases h0
 · exact ⟨_,rfl,H1⟩
end
theorem Be {h:Heap} {F:List aF} (H:aG F h):aE prog 8 [] h fun v h'=>v=.bool true∧aG F h':=by
 apply F1.ap
 unfold F8
 refine aW H fun b0 h1 H1=>?_
 refine (Ae (hs:=[5,1,9]) (n:=3) (fun h' H'=>by exact ge H' rfl) rfl (by decide) (by decide) (by decide) H1).mono ?_
 rintro v h2 ⟨a,l,rfl,hR,_,_,H2⟩
 have el:=zc hR
 subst el
 rw [aI]
 refine (um (room:=1000) H2 (by decide)).mono ?_
 rintro v h3 ⟨b,rfl,H3⟩
 refine ⟨some ⟨b,0,none⟩,0,rfl,?_⟩
 rw [show ((0:Int)!=0)=false from rfl,ab,show (((3:Nat):Int)!=3)=false from rfl,ab]
 have hr:=aH (H3.mv 1)
 refine cN (i:=0) (s:=3) hr rfl rfl fun b2 hc=>CI hc ?_
 rw [show ((3:Int)!=3)=false from rfl,ab]
 refine cN (i:=1) (s:=1) hr rfl rfl fun b2 hc=>CI hc ?_
 rw [show ((1:Int)!=1)=false from rfl,ab]
 refine cN (i:=2) (s:=3) hr rfl rfl fun b2 hc=>CI hc ?_
 rw [show ((3:Int)!=3)=false from rfl,ab]
 refine (Cl H3).mono ?_
 rintro v h4 ⟨s,l0,l1,rfl,W2,H4⟩
 refine ⟨some ⟨s,0,none⟩,0,rfl,?_⟩
 rw [show ((0:Int)!=0)=false from rfl,ab,show (some (⟨s,0,none⟩:Addr)).isNone=false from rfl,ab]
 refine aW H4 fun b1 h5 H5=>?_
 refine qd (by kernel_rfl) (by kernel_rfl) H5 fun h6 H6=>?_
 rw [aI]
 have S0:AF.aU.Small 0 (lg p1):=AF.aU.small0 (by decide) (by decide)
 have h8:B8 [120]:=fun n hn=>by rw [mem_singleton] at hn; omega
 have K1:=AF.aU.append_keeps (b:=[120]) W2 S0 (by decide) h8
 have hF14:aE prog 14 [aM s,.int .i64 1,.slice (some ⟨b1,0,none⟩) 1 1] h6 fun v h'=>v=.tuple #[.int .i64 0,.int .i64 0]∧aG (cy l1 b C2.2.1::bV b C2.1::pt b1 (.cells #[.int .u8 120] 5 (1,2))::qo s l0 l1::cy l0 b (lg p0)::eT 3 a 3 [(5,3),(1,1),(9,3)]::pt b0 (.cells #[.int .i64 5,.int .i64 1,.int .i64 9] 3 (0,0))::F) h':=by
  apply zZ.ap;unfold Ij;refine (vV (H6.mv 1)).mono ?_;rintro v h7 ⟨rfl,rfl⟩;refine ⟨some ⟨l1,0,none⟩,0,rfl,?_⟩;rw [show ((0:Int)!=0)=false from rfl,ab];refine (uf (k:=0) (bs:=[120]) W2 (by decide) S0 (by decide) (fun h' hh=>ge hh rfl) h8 rfl (H6.ordT 5 [3,4,0,1,2])).mono ?_;rintro v h8 ⟨rfl,H8⟩;rw [DT];exact ⟨0,0,rfl,rfl,H8⟩
 refine hF14.mono ?_
 rintro v h7 ⟨rfl,H7⟩
 refine ⟨0,0,rfl,?_⟩
 rw [show ((0:Int)==0)=true from rfl,ae]
 have hF15:aE prog 15 [aM s,.int .i64 1] h7 fun v h'=>v=.int .i64 0∧aG (cy l1 b (C2.2.1.synced Fd.2)::bV b Fd.1::pt b1 (.cells #[.int .u8 120] 5 (1,2))::qo s l0 l1::cy l0 b (lg p0)::eT 3 a 3 [(5,3),(1,1),(9,3)]::pt b0 (.cells #[.int .i64 5,.int .i64 1,.int .i64 9] 3 (0,0))::F) h':=by
  apply zY.ap;unfold Ii;refine (vV (H7.mv 3)).mono ?_;rintro v h8 ⟨rfl,rfl⟩;refine ⟨some ⟨l1,0,none⟩,0,rfl,?_⟩;rw [show ((0:Int)!=0)=false from rfl,ab];refine (kC (k:=2) K1.1 (Nat.lt_of_le_of_lt K1.2.1 (by decide)) K1.2.2 H7).mono ?_;rintro v h9 ⟨rfl,H9⟩;rw [Dg] at *;rw [aL];exact ⟨rfl,H9⟩
 refine hF15.mono ?_
 rintro v h8 ⟨rfl,H8⟩
 rw [aL,show ((0:Int)==0)=true from rfl,ae]
 have d1:=Ar
 generalize C2.2.1.synced Fd.2=L1 at H8 d1
 have J:aG (qo s l0 l1::cy l0 b (lg p0)::cy l1 b L1::F) h8:=H8.ordT 7 [3,4,0]
 clear H8 hF15 hF14
 have d0:(lg p0).dur=0:=rfl
 generalize lg p0=L0 at J d0
 clear hr
 refine ⟨?_,?_⟩
 · -- the ends first
   refine (pw d0 d1 J).mono ?_;rintro v h9 ⟨e,rfl,J1⟩;rw [aI];refine ⟨rfl,rfl,rfl,?_⟩;refine bj (i:=0) (v:=iv 0) (aH J1) rfl rfl fun c hb hc=>?_;cases hb;refine CI hc ⟨?_,?_⟩
   · refine (pw d0 d1 (J1.mv 1 |>.ordT 4 [0,2,3,1])).mono ?_;rintro v h10 ⟨e2,rfl,J2⟩;rw [aI];have r1:=aH (J2.mv 4);refine ⟨i4 (i:=0) r1 rfl rfl,kl (i:=0) r1 rfl,rfl,rfl,rfl,?_⟩;refine bj (i:=1) (v:=iv 1) (aH J2) rfl rfl fun c hb hc=>?_;cases hb;refine CI hc ⟨?_,?_⟩
     · refine aW J2 fun b2 h11 J3=>⟨rfl,rfl,aW J3 fun b3 h12 J4=>?_⟩
       have q1:=aH (J4.mv 6);have q2:=aH (J4.mv 2);refine ⟨rfl,i4 (i:=0) q1 rfl rfl,kl (i:=0) q1 rfl,rfl,rfl,i4 (i:=1) q2 rfl rfl,kl (i:=1) q2 rfl,rfl,?_⟩;refine (jF (rs:=[(0,0),(0,1)]) (ge (J4.mv 1) rfl) (ge J4 rfl) rfl (by decide)).mono ?_;rintro v h13 ⟨rfl,rfl⟩;rw [bO];exact ⟨rfl,J4.drop.drop.drop.drop.drop.drop.drop⟩
     · refine aW J2 fun b2 h11 J3=>?_;have q1:=aH (J3.mv 5);have q2:=aH (J3.mv 1);refine ⟨rfl,i4 (i:=0) q1 rfl rfl,kl (i:=0) q1 rfl,rfl,rfl,i4 (i:=1) q2 rfl rfl,kl (i:=1) q2 rfl,rfl,?_⟩;refine aW J3 fun b3 h12 J4=>⟨rfl,rfl,?_⟩
       refine (jF (rs:=[(0,0),(0,1)]) (ge J4 rfl) (ge (J4.mv 1) rfl) rfl (by decide)).mono ?_;rintro v h13 ⟨rfl,rfl⟩;rw [bO];exact ⟨rfl,J4.drop.drop.drop.drop.drop.drop.drop⟩
   · refine aW J1 fun b2 h10 J2=>?_;have r1:=aH (J2.mv 1);refine ⟨rfl,i4 (i:=0) r1 rfl rfl,kl (i:=0) r1 rfl,rfl,rfl,?_⟩;refine (pw d0 d1 (J2.ordT 5 [2,3,4,0,1])).mono ?_;rintro v h11 ⟨e2,rfl,J3⟩;rw [aI];have q1:=aH (J3.mv 5);refine ⟨i4 (i:=0) q1 rfl rfl,kl (i:=0) q1 rfl,rfl,rfl,rfl,?_⟩;refine bj (i:=1) (v:=iv 1) (aH J3) rfl rfl fun c hb hc=>?_;cases hb;refine CI hc ?_;refine aW J3 fun b3 h12 J4=>⟨rfl,rfl,?_⟩
     refine (jF (rs:=[(0,0),(0,1)]) (ge J4 rfl) (ge (J4.mv 5) rfl) rfl (by decide)).mono ?_;rintro v h13 ⟨rfl,rfl⟩;rw [bO];exact ⟨rfl,J4.drop.drop.drop.drop.drop.drop.drop⟩
 · refine aW J fun b2 h9 J1=>⟨rfl,rfl,?_⟩
   refine (pw d0 d1 (J1.ordT 4 [1,2,3,0])).mono ?_;rintro v h10 ⟨e,rfl,J2⟩;rw [aI];refine ⟨rfl,rfl,rfl,?_⟩;refine bj (i:=0) (v:=iv 0) (aH J2) rfl rfl fun c hb hc=>?_;cases hb;refine CI hc ?_;refine (pw d0 d1 (J2.ordT 5 [1,2,3,4,0])).mono ?_;rintro v h11 ⟨e2,rfl,J3⟩;rw [aI];have q1:=aH (J3.mv 5);refine ⟨i4 (i:=0) q1 rfl rfl,kl (i:=0) q1 rfl,rfl,rfl,rfl,?_⟩;refine bj (i:=1) (v:=iv 1) (aH J3) rfl rfl fun c hb hc=>?_;cases hb;refine CI hc ?_;refine aW J3 fun b3 h12 J4=>⟨rfl,rfl,?_⟩
   refine (jF (rs:=[(0,0),(0,1)]) (ge J4 rfl) (ge (J4.mv 5) rfl) rfl (by decide)).mono ?_;rintro v h13 ⟨rfl,rfl⟩;rw [bO];exact ⟨rfl,J4.drop.drop.drop.drop.drop.drop.drop⟩
end Go.Proofs.YtdpaiiibndnanaaGreatDoor
