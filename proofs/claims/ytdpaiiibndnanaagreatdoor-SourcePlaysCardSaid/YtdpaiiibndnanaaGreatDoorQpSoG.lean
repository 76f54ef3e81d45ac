/- The rounds of SourcePlays: the other calls. -/
import Derived.Test.YtdpaiiibndnanaaGreatDoorQpSoF
namespace Go.Proofs.YtdpaiiibndnanaaGreatDoor
open Go.Proofs.Tryz (prog)
open Go Go.RowKit
set_option linter.unusedVariables false
set_option linter.unusedSimpArgs false
open AF (aU cG Gr dD e9 Rg lf cx cH dd j5 dZ cZ cj fx iS fI)
section
variable {f m b0 n i:Nat} {A:AF.FS} {y:j7} {G:List aF} {hh hh0:Heap} {s t:Option Addr} {w:Sl} {ws:List Rg} {again:St→Heap→Prop} {rl:List Rg} {brk:Bool}
theorem Dx {b r:Nat} {ls:List aU} {parts size:Int} {Q:Value→Heap→Prop} (hk:y.k=2∨y.k=4) (W:A.WF) (hn:n≤4500) (hi:i<1000000) (hrl:cv hh0 y.la (rl.flatMap fh)) (hll:rl.length=y.ll) (hlm:y.ll≤300)
  (I:e9 n ls) (hw:ws.length=w.l) (hw5:w.l≤5) (H:aG (dN b f ls::d9 r m ls::OW w ws::bV f A::bd m A::PS b0 y::[old hh0]) hh) (go:sx f m A n i (PS b0 y::[old hh0]) again) :
  tY (some ⟨f,0,none⟩) (some ⟨m,0,none⟩) parts size b0 (some ⟨b,0,none⟩,some ⟨r,0,none⟩,false,w,(i:Int)) hh again Q:=by
 unfold tY
 dsimp only
 refine cB (H.mv 5) rfl ?_
 rw [iF (show ¬ y.k=0 by omega),ab]
 refine cB (H.mv 5) rfl ?_
 rw [iF (show ¬ y.k=1 by omega),ab]
 refine cB (H.mv 5) rfl ?_
 rcases hk with hk | hk
 · rw [kO hk,ae];refine bH (a:=y.la) (l:=y.ll) (m:=y.lc) (H.mv 5) rfl ?_;refine cB (H.mv 5) rfl ?_;rw [iF (show ¬ y.k=4 by omega),ab];exact vA W hn hi I hw hw5 hll (by omega) (fun G' h' H'=>hrl.old (H'.mv 1)) H go
 · rw [iF (show ¬ y.k=2 by omega),ab];refine cB (H.mv 5) rfl ?_;rw [kO hk,ae];refine bH (a:=y.la) (l:=y.ll) (m:=y.lc) (H.mv 5) rfl ?_;refine cB (H.mv 5) rfl ?_;rw [kO hk,ae];exact vA W hn hi I hw hw5 hw (by omega) (fun G' h' H'=>aH H') H go
theorem Fu {b r:Nat} {ls:List aU} {parts size:Int} {Q:Value→Heap→Prop} (hk:y.k=3) (W:A.WF) (hn:n≤4500) (hi:i<1000000) (hrl:cv hh0 y.la (rl.flatMap fh)) (hll:rl.length=y.ll) (hlm:y.ll≤300)
  (I:e9 n ls) (hw:ws.length=w.l) (hw5:w.l≤5) (H:aG (dN b f ls::d9 r m ls::OW w ws::bV f A::bd m A::PS b0 y::[old hh0]) hh) (go:sx f m A n i (PS b0 y::[old hh0]) again) :
  tY (some ⟨f,0,none⟩) (some ⟨m,0,none⟩) parts size b0 (some ⟨b,0,none⟩,some ⟨r,0,none⟩,false,w,(i:Int)) hh again Q:=by
 unfold tY
 dsimp only
 refine cB (H.mv 5) rfl ?_
 rw [iF (show ¬ y.k=0 by omega),ab]
 refine cB (H.mv 5) rfl ?_
 rw [iF (show ¬ y.k=1 by omega),ab]
 refine cB (H.mv 5) rfl ?_
 rw [iF (show ¬ y.k=2 by omega),ab]
 refine cB (H.mv 5) rfl ?_
 rw [iF (show ¬ y.k=4 by omega),ab]
 refine cB (H.mv 5) rfl ?_
 rw [kO hk,ae]
 refine bH (a:=y.la) (l:=y.ll) (m:=y.lc) (H.mv 5) rfl ?_
 have I2:=I.grow (show n≤n+2 by omega) (by omega)
 have same:∀ {h3:Heap},aG (dN b f ls::d9 r m ls::OW w ws::bV f A::bd m A::PS b0 y::[old hh0]) h3→sy (some ⟨f,0,none⟩) (some ⟨m,0,none⟩) b0 (some ⟨b,0,none⟩) (some ⟨r,0,none⟩) false 0 w.a w.l w.c (i:Int) h3 again Q:=fun H3=>
  gw (e:=0) (y:=y) (n:=n+2) W hi I2 hw hw5 H3 fun brk' h' hs=>go _ _ brk' w _ h' W (Gr.same _ A) hs
 refine (vX (k:=n) (rs:=rl) (F:=old hh0::d9 r m ls::OW w ws::bd m A::[PS b0 y]) (fun h' H'=>hrl.old H') hll (by omega) W I (by omega) (H.ordT 7 [0,3,6,1,2,4,5])).mono ?_
 rintro v h4 (⟨rr,ra,rc,hrd,rfl,H4⟩ | ⟨e,hrd,e0,rfl,H4⟩)
 · refine ⟨ra,rr.length,rc,0,rfl,?_⟩;refine bH (a:=y.la) (l:=y.ll) (m:=y.lc) (H4.mv 7) rfl ?_;refine (mC (k:=n) (rs:=rl) (F:=old hh0::oI ra rc rr::dN b f ls::bV f A::OW w ws::[PS b0 y]) (fun h' H'=>hrl.old H') hll (by omega) W I (by omega) (H4.ordT 8 [4,6,3,0,1,2,5,7])).mono ?_;rintro v h5 (⟨rr2,da,dc,hrd2,rfl,H5⟩ | ⟨e,hrd2,_⟩)
   rotate_left
   · rw [hrd] at hrd2; cases hrd2
   rw [hrd] at hrd2;cases hrd2;refine ⟨da,rr.length,dc,0,rfl,?_⟩;rw [show ((0:Int)!=0)=false from rfl,ab];have hbig:rr.length<1099511627776:=Nat.lt_of_le_of_lt (AF.nn I (by omega) hrd) (by decide);refine (ui (H5.mv 4) (aH H5) rfl (AF.oJ W hrd) hbig).mono ?_;rintro v h6 ⟨rfl,rfl⟩;rw [bO,aB,ab,ab];exact same (H5.ordT 9 [5,1,7,6,2,8,3])
 · refine ⟨none,0,0,(e:Int),rfl,?_⟩;refine bH (a:=y.la) (l:=y.ll) (m:=y.lc) (H4.mv 6) rfl ?_;refine (mC (k:=n) (rs:=rl) (F:=old hh0::dN b f ls::bV f A::OW w ws::[PS b0 y]) (fun h' H'=>hrl.old H') hll (by omega) W I (by omega) (H4.ordT 7 [3,5,2,0,1,4,6])).mono ?_;rintro v h5 (⟨rr2,da,dc,hrd2,rfl,H5⟩ | ⟨e2,hrd2,_,rfl,H5⟩)
   · rw [hrd] at hrd2; cases hrd2
   rw [hrd] at hrd2;cases hrd2;refine ⟨none,0,0,(e:Int),rfl,?_⟩;rw [bne_self_eq_false,ab];refine uj.mono ?_;rintro v h6 ⟨rfl,rfl⟩;rw [bO,aB,ab,show ((0:Int)!=0)=false from rfl,ab];exact same (H5.ordT 7 [3,0,5,4,1,6,2])
theorem Ft {parts size:Int} {Q:Value→Heap→Prop} (hk:y.k=5) (W:A.WF) (hst:A.steps+200000<1099511627776) (hfl:A.files.length+200000<1099511627776) (hn:n≤4500) (hn2:4096≤n) (hi:i<1000000)
  (hw:ws.length=w.l) (hw5:w.l≤5) (H:aG (OW w ws::bV f A::bd m A::PS b0 y::[old hh0]) hh) (go:sx f m A n i (PS b0 y::[old hh0]) again) :
  tY (some ⟨f,0,none⟩) (some ⟨m,0,none⟩) parts size b0 (s,t,brk,w,(i:Int)) hh again Q:=by
 unfold tY
 dsimp only
 refine cB (H.mv 3) rfl ?_
 rw [iF (show ¬ y.k=0 by omega),ab]
 refine cB (H.mv 3) rfl ?_
 rw [iF (show ¬ y.k=1 by omega),ab]
 refine cB (H.mv 3) rfl ?_
 rw [iF (show ¬ y.k=2 by omega),ab]
 refine cB (H.mv 3) rfl ?_
 rw [iF (show ¬ y.k=4 by omega),ab]
 refine cB (H.mv 3) rfl ?_
 rw [iF (show ¬ y.k=3 by omega),ab]
 refine cB (H.mv 3) rfl ?_
 rw [kO hk,ae]
 obtain ⟨W',G1,IL⟩:=AF.oT parts size W
 refine (wd (parts:=parts) (size:=size) W (by omega) (H.ordT 5 [1,0,2,3,4])).mono ?_
 rintro v h2 (⟨b,ls,ho,rfl,H2⟩ | ⟨e,ho,e0,rfl,H2⟩)
 · refine ⟨_,0,rfl,?_⟩;refine (mD (parts:=parts) (size:=size) W (by omega) (by omega) (H2.ordT 6 [3,0,1,2,4,5])).mono ?_;rintro v h3 (⟨r,ls2,ho2,rfl,H3⟩ | ⟨e,ho2,_⟩)
   rotate_left
   · rw [ho] at ho2; cases ho2
   rw [ho] at ho2;cases ho2;refine ⟨_,0,rfl,?_⟩;rw [show ((0:Int)!=0)=false from rfl,ab];obtain ⟨h1,h2,h3,h4⟩:=IL ls ho;have K:sy (some ⟨f,0,none⟩) (some ⟨m,0,none⟩) b0 (some ⟨b,0,none⟩) (some ⟨r,0,none⟩) false ((0:Nat):Int) w.a w.l w.c (i:Int) _ again Q:=
    gw (e:=0) (y:=y) (n:=n+2) W' hi ⟨h2,fun L hL=>(h4 L hL).grow (by omega) (by omega)⟩ hw hw5 (H3.ordT 7 [2,0,4,3,1,5,6]) fun brk' h' hs=>go _ _ brk' w _ h' W' (G1.le (by decide)) hs
   exact K
 · refine ⟨none,(e:Int),rfl,?_⟩;refine (mD (parts:=parts) (size:=size) W (by omega) (by omega) (H2.ordT 5 [2,0,1,3,4])).mono ?_;rintro v h3 (⟨r,ls2,ho2,_⟩ | ⟨e2,ho2,_,rfl,H3⟩)
   · rw [ho] at ho2; cases ho2
   rw [ho] at ho2;cases ho2;refine ⟨none,(e:Int),rfl,?_⟩;rw [bne_self_eq_false,ab,aX e0];exact qn W' hi (H3.ordT 5 [1,0,2,3,4]) fun h' H'=>go _ _ true w _ h' W' (G1.le (by decide)) ⟨ws,hw,hw5,.inl ⟨rfl,H'.ordT 5 [2,0,1,3,4]⟩⟩
theorem AM (W:A.WF) (hst:A.steps+200000<1099511627776) (hfl:A.files.length+200000<1099511627776) {X:List aF} (hy:kG hh0 y.fs) (hL:rn y.fs) {K:Int→Int→Heap→Prop} (H:aG (bd m A::bV f A::PS b0 y::old hh0::X) hh)
  (hK:∀ (z:Int) A' h',A'.WF→Gr 1 A A'→aG (bd m A'::bV f A'::PS b0 y::old hh0::X) h'→K z z h') :
  Ld hh ((Addr.mk b0 0 none).add (4+0)) fun c18=>Ld hh ((Addr.mk b0 0 none).add (4+1)) fun c19=>Ld hh ((Addr.mk b0 0 none).add (4+2)) fun c20=>Ld hh ((Addr.mk b0 0 none).add (4+3)) fun c21=>Ld hh ((Addr.mk b0 0 none).add (4+4)) fun c22=>Ld hh ((Addr.mk b0 0 none).add (4+5)) fun c23=>Ld hh ((Addr.mk b0 0 none).add (4+6)) fun c24=>
  ∃ (x307:Int),∃ (x308:ByteArray),∃ (x309:ByteArray),∃ (x310:ByteArray),∃ (x311:Int),∃ (x312:Int),∃ (x313a:Option Addr),∃ (x313l:Nat),∃ (x313c:Nat),(Value.agg #[c18,c19,c20,c21,c22,c23,c24])=.agg #[.int .i64 x307,.string x308,.string x309,.string x310,.int .i64 x311,.int .u8 x312,.slice x313a x313l x313c]∧
  Ld hh ((Addr.mk b0 0 none).add (4+0)) fun c25=>Ld hh ((Addr.mk b0 0 none).add (4+1)) fun c26=>Ld hh ((Addr.mk b0 0 none).add (4+2)) fun c27=>Ld hh ((Addr.mk b0 0 none).add (4+3)) fun c28=>Ld hh ((Addr.mk b0 0 none).add (4+4)) fun c29=>Ld hh ((Addr.mk b0 0 none).add (4+5)) fun c30=>Ld hh ((Addr.mk b0 0 none).add (4+6)) fun c31=>
  ∃ (x314:Int),∃ (x315:ByteArray),∃ (x316:ByteArray),∃ (x317:ByteArray),∃ (x318:Int),∃ (x319:Int),∃ (x320a:Option Addr),∃ (x320l:Nat),∃ (x320c:Nat),(Value.agg #[c25,c26,c27,c28,c29,c30,c31])=.agg #[.int .i64 x314,.string x315,.string x316,.string x317,.int .i64 x318,.int .u8 x319,.slice x320a x320l x320c]∧
  aE prog 31 [.pointer (some ⟨f,0,none⟩),.agg #[.int .i64 x307,.string x308,.string x309,.string x310,.int .i64 x311,.int .u8 x312,.slice x313a x313l x313c]] hh fun r204 h_216=>
  DI .i64 r204 fun x321=>
  (aJ (some (.pointer (some ⟨m,0,none⟩))) (.pointer (some ⟨m,0,none⟩)))∧
  (aJ (some (.pointer (some ((Addr.mk b0 0 none).add 4)))) (.pointer (some ((Addr.mk b0 0 none).add 4))))∧
  (Ld h_216 ((Addr.mk b0 0 none).add (4+0)) fun c32=>Ld h_216 ((Addr.mk b0 0 none).add (4+1)) fun c33=>Ld h_216 ((Addr.mk b0 0 none).add (4+2)) fun c34=>Ld h_216 ((Addr.mk b0 0 none).add (4+3)) fun c35=>Ld h_216 ((Addr.mk b0 0 none).add (4+4)) fun c36=>Ld h_216 ((Addr.mk b0 0 none).add (4+5)) fun c37=>Ld h_216 ((Addr.mk b0 0 none).add (4+6)) fun c38=>
  ∃ (x322:Int),∃ (x323:ByteArray),∃ (x324:ByteArray),∃ (x325:ByteArray),∃ (x326:Int),∃ (x327:Int),∃ (x328a:Option Addr),∃ (x328l:Nat),∃ (x328c:Nat),(Value.agg #[c32,c33,c34,c35,c36,c37,c38])=.agg #[.int .i64 x322,.string x323,.string x324,.string x325,.int .i64 x326,.int .u8 x327,.slice x328a x328l x328c]∧
  aJ (some (.agg #[.int .i64 x314,.string x315,.string x316,.string x317,.int .i64 x318,.int .u8 x319,.slice x320a x320l x320c])) (.agg #[.int .i64 x322,.string x323,.string x324,.string x325,.int .i64 x326,.int .u8 x327,.slice x328a x328l x328c]))∧
  aE prog 32 [.pointer (some ⟨m,0,none⟩),.agg #[.int .i64 x314,.string x315,.string x316,.string x317,.int .i64 x318,.int .u8 x319,.slice x320a x320l x320c]] h_216 fun r205 h_217=>
  DI .i64 r205 fun x329=>K x321 x329 h_217:=by
 have hLb:=hL.b
 have hLd:=hL.dir
 have hLn:=hL.name
 have HP:=H.mv 2
 obtain ⟨turn,hturn⟩:∃ t:Nat,y.fs.turn=(t:Int):=⟨y.fs.turn.toNat,by have:=hy.turn.1; omega⟩
 have ht:turn<256:=by have:=hy.turn.2; omega
 obtain ⟨ps,hpr,hpl,hpc,hpm⟩:=hy.picks
 refine dX (v:=.int .i64 y.fs.k) HP rfl (dX (v:=.string y.fs.dir) HP rfl (dX (v:=.string y.fs.name) HP rfl (dX (v:=.string y.fs.b) HP rfl (dX (v:=.int .i64 y.fs.n) HP rfl (dX (v:=.int .u8 y.fs.turn) HP rfl (dX (v:=.slice y.fs.pa y.fs.pl y.fs.pc) HP rfl ?_))))))
 refine ⟨y.fs.k,y.fs.dir,y.fs.name,y.fs.b,y.fs.n,y.fs.turn,y.fs.pa,y.fs.pl,y.fs.pc,rfl,?_⟩
 refine dX (v:=.int .i64 y.fs.k) HP rfl (dX (v:=.string y.fs.dir) HP rfl (dX (v:=.string y.fs.name) HP rfl (dX (v:=.string y.fs.b) HP rfl (dX (v:=.int .i64 y.fs.n) HP rfl (dX (v:=.int .u8 y.fs.turn) HP rfl (dX (v:=.slice y.fs.pa y.fs.pl y.fs.pc) HP rfl ?_))))))
 refine ⟨y.fs.k,y.fs.dir,y.fs.name,y.fs.b,y.fs.n,y.fs.turn,y.fs.pa,y.fs.pl,y.fs.pc,rfl,?_⟩
 have hp1:sr (bd m A::PS b0 y::old hh0::X) ps y.fs.pa y.fs.pl y.fs.pc:=⟨hpl,hpc,fun h' hx=>hpr.old (hx.mv 2)⟩
 rw [hturn]
 refine (zQ (k:=y.fs.k) (dir:=y.fs.dir) (name:=y.fs.name) (b:=y.fs.b) (n:=y.fs.n) (turn:=turn) W (by omega) (by omega) (by omega) (by omega) ht hy.n.2 hp1 (H.ordT 2 [1,0])).mono ?_
 rintro v h1 ⟨rfl,H1⟩
 rw [aL]
 have HC:=H1.mv 2
 rw [← hturn]
 refine ⟨rfl,rfl,dX (v:=.int .i64 y.fs.k) HC rfl (dX (v:=.string y.fs.dir) HC rfl (dX (v:=.string y.fs.name) HC rfl (dX (v:=.string y.fs.b) HC rfl (dX (v:=.int .i64 y.fs.n) HC rfl (dX (v:=.int .u8 y.fs.turn) HC rfl (dX (v:=.slice y.fs.pa y.fs.pl y.fs.pc) HC rfl ⟨y.fs.k,y.fs.dir,y.fs.name,y.fs.b,y.fs.n,y.fs.turn,y.fs.pa,y.fs.pl,y.fs.pc,rfl,rfl⟩)))))),?_⟩
 have hp2:sr (bV f (A.act y.fs.k y.fs.dir y.fs.name y.fs.b y.fs.n turn ps).1::PS b0 y::old hh0::X) ps y.fs.pa y.fs.pl y.fs.pc:=⟨hpl,hpc,fun h' hx=>hpr.old (hx.mv 2)⟩
 rw [hturn]
 refine (zP (k:=y.fs.k) (dir:=y.fs.dir) (name:=y.fs.name) (b:=y.fs.b) (n:=y.fs.n) (turn:=turn) W (by omega) (by omega) (by omega) ht hp2 (H1.mv 1)).mono ?_
 rintro v h2 ⟨rfl,H2⟩
 rw [aL]
 exact hK _ _ _ (W.act (k:=y.fs.k) (dir:=y.fs.dir) (name:=y.fs.name) (b:=y.fs.b) (ps:=ps) hy.n.2 ht) AF.dr.act H2
theorem Fs {parts size:Int} {Q:Value→Heap→Prop} (hks:¬ y.k=0∧¬ y.k=1∧¬ y.k=2∧¬ y.k=4∧¬ y.k=3∧¬ y.k=5) (W:A.WF) (hst:A.steps+200000<1099511627776) (hfl:A.files.length+200000<1099511627776) (hn:n≤4500) (hi:i<1000000) (hy:kG hh0 y.fs) (hL:rn y.fs)
  (HI:SI f m s t brk w A n (PS b0 y::[old hh0]) hh) (go:sx f m A n i (PS b0 y::[old hh0]) again) :
  tY (some ⟨f,0,none⟩) (some ⟨m,0,none⟩) parts size b0 (s,t,brk,w,(i:Int)) hh again Q:=by
 obtain ⟨k0,k1,k2,k4,k3,k5⟩:=hks
 obtain ⟨ws,hw,hw5,HI⟩:=HI
 obtain ⟨X,H,hX⟩:∃ X,aG (bd m A::bV f A::PS b0 y::old hh0::OW w ws::X) hh∧((brk=true∧X=[])∨(brk=false∧∃ b r ls,s=some ⟨b,0,none⟩∧t=some ⟨r,0,none⟩∧e9 n ls∧X=[dN b f ls,d9 r m ls])):=by
  rcases HI with ⟨h1,H⟩ | ⟨h1,b,r,ls,e1,e2,I,H⟩
  · exact ⟨[],H.ordT 5 [2,1,3,4,0],.inl ⟨h1,rfl⟩⟩
  · exact ⟨[dN b f ls,d9 r m ls],H.ordT 7 [4,3,5,6,2,0,1],.inr ⟨h1,b,r,ls,e1,e2,I,rfl⟩⟩
 clear HI
 unfold tY
 dsimp only
 simp only [bm]
 have HP:=H.mv 2
 refine cB HP rfl ?_
 rw [iF k0,ab]
 refine cB HP rfl ?_
 rw [iF k1,ab]
 refine cB HP rfl ?_
 rw [iF k2,ab]
 refine cB HP rfl ?_
 rw [iF k4,ab]
 refine cB HP rfl ?_
 rw [iF k3,ab]
 refine cB HP rfl ?_
 rw [iF k5,ab]
 refine AM (y:=y) W hst hfl hy hL H fun z A' h2 W' G1 H2=>?_
 rw [bne_self_eq_false,ab]
 have gone:∀ (h3:Heap),aG (bV f A'::bd m A'::PS b0 y::old hh0::OW w ws::X) h3→again (s,t,true,w,((i+1:Nat):Int)) h3:=fun h3 H3=>by
  have H4:aG ([OW w ws,bV f A',bd m A',PS b0 y,old hh0]++X) h3:=H3.ordT 5 [4,0,1,2,3];exact go s t true w A' h3 W' (G1.le (by decide)) ⟨ws,hw,hw5,.inl ⟨rfl,H4.dropTail⟩⟩
 rcases hX with ⟨rfl,rfl⟩ | ⟨rfl,b,r,ls,rfl,rfl,I,rfl⟩
 · rw [ae,show ((0:Int)!=0)=false from rfl,ab];refine (pV W' (H2.ordT 2 [1,0])).mono ?_;rintro v h3 ⟨rfl,H3⟩;rw [bO,aB,ab,aN (by omega)];exact gone h3 H3
 · rw [ab];have same:sy (some ⟨f,0,none⟩) (some ⟨m,0,none⟩) b0 (some ⟨b,0,none⟩) (some ⟨r,0,none⟩) false ((0:Nat):Int) w.a w.l w.c (i:Int) h2 again Q:=
    gw (e:=0) (y:=y) (n:=n+2) W' hi (I.grow (by omega) (by omega)) hw hw5 (H2.ordT 7 [5,6,4,1,0,2,3]) fun brk' h' hs=>go _ _ brk' w _ h' W' (G1.le (by decide)) hs
   refine cB (i:=4+0) (H2.mv 2) rfl ?_;by_cases f7:y.fs.k=7
   rotate_left
   · rw [show ((y.fs.k:Int)!=7)=true from by rw [bne_iff_ne]; exact f7,ae];refine cB (i:=4+0) (H2.mv 2) rfl ?_;rw [show ((0:Int)!=0)=false from rfl,ab];by_cases f8:y.fs.k=8
     · rw [show ((y.fs.k:Int)!=8)=false from by rw [f8]; rfl];exact same
     · rw [show ((y.fs.k:Int)!=8)=true from by rw [bne_iff_ne]; exact f8];exact qn W' hi (H2.ordT 2 [1,0]) gone
   · rw [show ((y.fs.k:Int)!=7)=false from by rw [f7]; rfl,ab,show ((0:Int)!=0)=false from rfl,ab];have K:=same;unfold sy at K;exact K
end
end Go.Proofs.YtdpaiiibndnanaaGreatDoor
