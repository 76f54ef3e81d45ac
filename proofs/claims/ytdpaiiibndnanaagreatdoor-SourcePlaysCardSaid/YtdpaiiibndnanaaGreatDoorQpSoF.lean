/- The rounds of SourcePlays: what is compared; the calls. -/
import Derived.Test.YtdpaiiibndnanaaGreatDoorQpSoE
import Derived.Test.YtdpaiiibndnanaaGreatDoorQpTw
namespace Go.Proofs.YtdpaiiibndnanaaGreatDoor
open List (mem_of_mem_take mem_of_mem_drop length_nil mem_cons_self getElem?_cons_zero length_zipWith)
open Go Go.RowKit
set_option linter.unusedVariables false
set_option linter.unusedSimpArgs false
open AF (aU cG Gr dD e9 Rg lf cx cH dd j5 dZ cZ cj fx iS fI)
abbrev kF.arr (y:kF):Array Value:=#[.int .i64 y.k,.string y.dir,.string y.name,.string y.b,.int .i64 y.n,.int .u8 y.turn,.slice y.pa y.pl y.pc]
theorem AC {h:Heap} {F:List aF} {b:Nat} {e:TypeId} {y:kF} (H:aG (pt b (.cells y.arr e (0,0))::F) h) (hy:kG h y):sF h (some ⟨b,0,none⟩) [y]:=by
 intro i x hx
 cases i with
 | succ i=>simp at hx
 | zero=>
   simp only [getElem?_cons_zero,Option.some.injEq] at hx;subst hx;refine ⟨hy,_,rfl,fun j v hj=>?_⟩;rw [Nat.zero_mul,Nat.zero_add,dH H.get,← Array.getElem?_toList];exact hj
theorem kG.old {h h':Heap} {F:List aF} {y:kF} (h1:kG h y) (hs:aG (old h::F) h'):kG h' y:=by
 obtain ⟨ps,hr,h2,h3⟩:=h1.picks
 exact ⟨h1.k,h1.n,h1.turn,h1.dir,h1.name,h1.b,ps,hr.old hs,h2,h3⟩
structure j7 where
 k:Int
 part:Int
 most:Int
 la:Option Addr
 ll:Nat
 lc:Nat
 fs:kF
abbrev j7.arr (y:j7):Array Value:=#[.int .i64 y.k,.int .i64 y.part,.int .i64 y.most,.slice y.la y.ll y.lc,.int .i64 y.fs.k,.string y.fs.dir,.string y.fs.name,.string y.fs.b,.int .i64 y.fs.n,.int .u8 y.fs.turn,.slice y.fs.pa y.fs.pl y.fs.pc]
abbrev PS (b0:Nat) (y:j7):aF:=pt b0 (.cells y.arr 68 (0,0))
abbrev OW (w:Sl) (ws:List Rg):aF:=aQ 86 2 w.a w.l w.c (ws.flatMap fh)
abbrev St:=Option Addr×Option Addr×Bool×Sl×Int
def SI (f m:Nat) (s t:Option Addr) (brk:Bool) (w:Sl) (A:AF.FS) (n:Nat) (G:List aF) (hh:Heap):Prop:=
 ∃ ws:List Rg,ws.length=w.l∧w.l≤5∧((brk=true∧aG (OW w ws::bV f A::bd m A::G) hh)∨
 (brk=false∧∃ b r ls,s=some ⟨b,0,none⟩∧t=some ⟨r,0,none⟩∧e9 n ls∧aG (dN b f ls::d9 r m ls::OW w ws::bV f A::bd m A::G) hh))
theorem cB {F:List aF} {h:Heap} {b i:Nat} {c:Array Value} {e:TypeId} {fr:Nat×Nat} {k:IntKind} {x:Int} {K:Int→Prop} (H:aG (pt b (.cells c e fr)::F) h) (hv:c[i]? = some (.int k x)) (hK:K x):Ld h ((Addr.mk b 0 none).add i) fun v=>DI k v K:=
 dX H hv (by show DI k (.int k x) K; rw [aL]; exact hK)
namespace AF
theorem yU {bs:List Nat} (h8:B8 bs):∀ y∈bp bs,B8 y:=fun y hy=>rN _ bs (ax _) h8 y ((List.takeWhile_sublist _).subset hy)
theorem mJ {A:FS} (W:A.WF) {dir:ByteArray} {lo hi:Nat}:∀ (ps:List eH) (out r:List (List Nat)),(∀ y∈out,B8 y)→aU.readGo A dir lo hi ps out=.ok r→∀ y∈r,B8 y
 | [],out,r,ho,h=>by cases h; exact ho
 | p::ps,out,r,ho,h=>by
   unfold aU.readGo at h;split at h
   · cases h; exact ho
   · split at h
     · exact mJ W ps out r ho h
     · split at h
       · cases h
       · rename_i bs hrd;split at h
         · cases h
         · refine mJ W ps _ r (fun y hy=>?_) h
           rcases List.mem_append.1 hy with hy | hy
           · exact ho y hy
           · exact yU (nZ W hrd).1 y (mem_of_mem_take (mem_of_mem_drop hy))
theorem aU.read_B8s {A:FS} (W:A.WF) {L:aU} {lo hi:Int} {out:List (List Nat)} (h:L.read A lo hi=.ok out):∀ y∈out,B8 y:=by
 unfold aU.read at h
 split at h
 · cases h
 · exact mJ W _ [] out (by simp) h
theorem oM {A:FS} (W:A.WF):∀ (ls:List aU) (l:List Rg) (k:Nat) (out r:List nM),(∀ y∈out,B8 y.2.2)→cj A ls l k out=.ok r→∀ y∈r,B8 y.2.2
 | [],l,k,out,r,ho,h=>by unfold cj at h; cases h; exact ho
 | L::ls,[],k,out,r,ho,h=>by unfold cj at h; cases h; exact ho
 | L::ls,p::l,k,out,r,ho,h=>by
   unfold cj at h;split at h
   · cases h
   · rename_i b hb;refine oM W ls l (k+1) _ r (fun y hy=>?_) h
     rcases List.mem_append.1 hy with hy | hy
     · exact ho y hy
     · obtain ⟨j,hj⟩:=List.mem_iff_getElem?.1 hy;have hlt:j<b.length:=by
        have:=(ak.1 hj).1;rw [dy] at this;exact this
       obtain ⟨x,hx⟩:∃ x,b[j]? = some x:=⟨_,ai hlt⟩
       rw [jM hx] at hj;cases hj;exact aU.read_B8s W hb x (aj hx)
theorem nq {A:FS} {k:Nat} (hk:k≤5000):∀ (ls:List aU) (l:List Rg) (j:Nat) (out r:List nM),(∀ L∈ls,L.Fit k)→cj A ls l j out=.ok r→r.length≤out.length+ls.length*83886080000
 | [],l,j,out,r,_,h=>by unfold cj at h; cases h; exact Nat.le_add_right _ _
 | L::ls,[],j,out,r,_,h=>by unfold cj at h; cases h; exact Nat.le_add_right _ _
 | L::ls,p::l,j,out,r,hF,h=>by
   unfold cj at h;split at h
   · cases h
   · rename_i b hb;have h1:=nq hk ls l (j+1) _ r (fun L hL=>hF L (aD _ hL)) h;have IL:=hF L (mem_cons_self ..);have h2:=IL.read_len hb;have h3:=IL.small.fin;rw [ao,dy] at h1;rw [ar,Nat.succ_mul];omega
theorem nn {A:FS} {ls:List aU} {l:List Rg} {r:List nM} {k:Nat} (I:e9 k ls) (hk:k≤5000) (h:fx ls A l=.ok r):r.length≤335544320000:=by
 unfold fx at h
 split at h
 · cases h
 · have h1:=nq hk ls l 0 [] r I.2 h;have h2:ls.length*83886080000≤4*83886080000:=Nat.mul_le_mul_right _ I.1;rw [length_nil] at h1;omega
theorem oJ {A:FS} (W:A.WF) {ls:List aU} {l:List Rg} {r:List nM} (h:fx ls A l=.ok r):∀ y∈r,B8 y.2.2:=by
 unfold fx at h
 split at h
 · cases h
 · exact oM W ls l 0 [] r (by simp) h
end AF
section
variable {f m b0 n i:Nat} {A:AF.FS} {y:j7} {G:List aF} {hh hh0:Heap} {s t:Option Addr} {w:Sl} {ws:List Rg} {again:St→Heap→Prop}
abbrev sx (f m:Nat) (A:AF.FS) (n i:Nat) (G:List aF) (again:St→Heap→Prop):Prop:=
 ∀ s' t' brk' w' A' h',A'.WF→Gr 100000 A A'→SI f m s' t' brk' w' A' (n+2) G h'→again (s',t',brk',w',((i+1:Nat):Int)) h'
theorem DO {b r:Nat} {ls:List aU} {Q:Value→Heap→Prop} (I:e9 n ls) (hi:i<1000000) (hw:ws.length=w.l) (hw5:w.l≤5) (H:aG (dN b f ls::d9 r m ls::OW w ws::bV f A::bd m A::PS b0 y::G) hh)
  (go:∀ h',SI f m (some ⟨b,0,none⟩) (some ⟨r,0,none⟩) false w A n (PS b0 y::G) h'→again (some ⟨b,0,none⟩,some ⟨r,0,none⟩,false,w,((i+1:Nat):Int)) h'):Bo (some ⟨b,0,none⟩) (some ⟨r,0,none⟩) false w.a w.l w.c (i:Int) hh again Q:=by
 unfold Bo
 refine (zO I.1 H).mono ?_
 rintro v h1 ⟨rfl,H1⟩
 rw [bO,aB,ab,aN (by omega)]
 exact go h1 ⟨ws,hw,hw5,.inr ⟨rfl,b,r,ls,rfl,rfl,I,H1⟩⟩
theorem qn {e:Int} {Q:Value→Heap→Prop} (W:A.WF) (hi:i<1000000) (H:aG (bV f A::bd m A::G) hh) (go:∀ h',aG (bV f A::bd m A::G) h'→again (s,t,true,w,((i+1:Nat):Int)) h') :
  sy (some ⟨f,0,none⟩) (some ⟨m,0,none⟩) b0 s t true e w.a w.l w.c (i:Int) hh again Q:=by
 unfold sy
 refine (pV W H).mono ?_
 rintro v h1 ⟨rfl,H1⟩
 rw [bO,aB,ab,ae,aN (by omega)]
 exact go h1 H1
theorem gw {e:Nat} {b r:Nat} {ls:List aU} {Q:Value→Heap→Prop} (W:A.WF) (hi:i<1000000) (I:e9 n ls) (hw:ws.length=w.l) (hw5:w.l≤5) (H:aG (dN b f ls::d9 r m ls::OW w ws::bV f A::bd m A::PS b0 y::G) hh)
  (go:∀ brk' h',SI f m (some ⟨b,0,none⟩) (some ⟨r,0,none⟩) brk' w A n (PS b0 y::G) h'→again (some ⟨b,0,none⟩,some ⟨r,0,none⟩,brk',w,((i+1:Nat):Int)) h') :
  sy (some ⟨f,0,none⟩) (some ⟨m,0,none⟩) b0 (some ⟨b,0,none⟩) (some ⟨r,0,none⟩) false (e:Int) w.a w.l w.c (i:Int) hh again Q:=by
 unfold sy
 refine (pV W (H.ordT 5 [3,4,0,1,2])).mono ?_
 rintro v h1 ⟨rfl,H1⟩
 have H2:aG (dN b f ls::d9 r m ls::OW w ws::bV f A::bd m A::PS b0 y::G) h1:=H1.ordT 5 [2,3,4,0,1]
 have chk:∀ {brk:Bool},brk=false→Bo (some ⟨b,0,none⟩) (some ⟨r,0,none⟩) brk w.a w.l w.c (i:Int) h1 again Q:=by
  rintro brk rfl;exact DO I hi hw hw5 H2 fun h' hs=>go false h' hs
 have fd:Fa (some ⟨b,0,none⟩) (some ⟨r,0,none⟩) (e:Int) w.a w.l w.c (i:Int) h1 again Q:=by
  unfold Fa;have bne:∀ k:Nat,e≠k→((e:Int)!=(k:Int))=true:=fun k hk=>by rw [bne_iff_ne]; omega
  by_cases e0:e=0
  · rw [e0,show (((0:Nat):Int)!=0)=false from rfl,ab];exact chk rfl
  rw [show ((e:Int)!=0)=true from bne 0 e0,ae];by_cases e1:e=100
  · rw [e1,show (((100:Nat):Int)!=100)=false from rfl,ab];exact chk rfl
  rw [show ((e:Int)!=100)=true from bne 100 e1,ae];by_cases e2:e=64
  · rw [e2,show (((64:Nat):Int)!=64)=false from rfl,ab];exact chk rfl
  rw [show ((e:Int)!=64)=true from bne 64 e2,ae];by_cases e3:e=110
  · rw [e3,show (((110:Nat):Int)!=110)=false from rfl,aC,ae];exact chk rfl
  rw [show ((e:Int)!=110)=true from bne 110 e3,aB,ab,aN (by omega)];exact go true h1 ⟨ws,hw,hw5,.inl ⟨rfl,H2.drop.drop⟩⟩
 rw [bO,aB,ab,ab]
 refine cB (H2.mv 5) rfl ?_
 by_cases k0:y.k=0
 · rw [kO k0,ae];exact fd
 rw [iF k0,ab]
 refine cB (H2.mv 5) rfl ?_
 by_cases k1:y.k=1
 · rw [kO k1,ae];exact fd
 rw [iF k1,ab]
 exact chk rfl
theorem Fw {b r:Nat} {ls:List aU} {parts size:Int} {Q:Value→Heap→Prop} (hk:y.k=0) (W:A.WF) (hst:A.steps+200000<1099511627776) (hfl:A.files.length+200000<1099511627776) (hn:n≤4500) (hi:i<1000000) (hL:rn y.fs)
  (I:e9 n ls) (hw:ws.length=w.l) (hw5:w.l≤5) (H:aG (dN b f ls::d9 r m ls::OW w ws::bV f A::bd m A::PS b0 y::[old hh0]) hh) (go:sx f m A n i (PS b0 y::[old hh0]) again) :
  tY (some ⟨f,0,none⟩) (some ⟨m,0,none⟩) parts size b0 (some ⟨b,0,none⟩,some ⟨r,0,none⟩,false,w,(i:Int)) hh again Q:=by
 have hLb:=hL.b
 unfold tY
 dsimp only
 simp only [bm]
 refine cB (H.mv 5) rfl ?_
 rw [kO hk,ae]
 refine cB (i:=1) (H.mv 5) rfl ?_
 refine bz (i:=4+3) (x:=y.fs.b) (H.mv 5) rfl ?_
 refine zf H (by unfold maxLen; omega) fun ca cc h1 H1=>?_
 rw [aI]
 have hsb:=bE y.fs.b
 rw [← hsb] at H1 ⊢
 refine (Cg (part:=y.part) (bs:=sb y.fs.b) (F:=aQ 5 1 ca (sb y.fs.b).length cc ((sb y.fs.b).map nv)::d9 r m ls::OW w ws::bd m A::PS b0 y::[old hh0]) W (by omega) I (by omega) (fun h' hx=>aH hx) (gv _) rfl (H1.ordT 8 [1,4,0,2,3,5,6,7])).mono ?_
 rintro v h2 ⟨rfl,H2⟩
 obtain ⟨W',G1,I1,_⟩:=AF.A6 (part:=y.part) W I (by omega) (gv y.fs.b)
 have KR:=zT (s:=y.fs.b) (part:=y.part) W (by omega) (by omega) I (by omega) (H2.ordT 8 [3,5,0,1,2,4,6,7])
 generalize hq:iS ls A y.part (sb y.fs.b)=q at *
 have fin:∀ {e:Nat} {h3:Heap},aG (d9 r m q.2.1::bd m q.1::dN b f q.2.1::bV f q.1::aQ 5 1 ca (sb y.fs.b).length cc ((sb y.fs.b).map nv)::OW w ws::PS b0 y::[old hh0]) h3→
   sy (some ⟨f,0,none⟩) (some ⟨m,0,none⟩) b0 (some ⟨b,0,none⟩) (some ⟨r,0,none⟩) false (e:Int) w.a w.l w.c (i:Int) h3 again Q:=fun H3=>
  gw (y:=y) (n:=n+2) W' hi I1 hw hw5 (H3.ordT 8 [2,0,5,3,1,6,7]) fun brk' h' hs=>go _ _ brk' w _ h' W' (G1.le (by decide)) hs
 cases hr:q.2.2 with
 | ok c=>
   rw [hr] at KR;refine ⟨(c:Int),0,rfl,cB (i:=1) (H2.mv 6) rfl (bz (i:=4+3) (x:=y.fs.b) (H2.mv 6) rfl (KR.mono ?_))⟩;rintro v h3 ⟨rfl,H3⟩;refine ⟨(c:Int),0,rfl,?_⟩;rw [bne_self_eq_false,ab,show ((0:Int)!=0)=false from rfl,ab];exact fin (e:=0) H3
 | error e=>
   rw [hr] at KR;refine ⟨0,(e:Int),rfl,cB (i:=1) (H2.mv 6) rfl (bz (i:=4+3) (x:=y.fs.b) (H2.mv 6) rfl (KR.mono ?_))⟩;rintro v h3 ⟨rfl,H3⟩;refine ⟨0,(e:Int),rfl,?_⟩;rw [show ((0:Int)!=0)=false from rfl,ab,bne_self_eq_false,ab];exact fin H3
theorem Fv {b r:Nat} {ls:List aU} {parts size:Int} {Q:Value→Heap→Prop} (hk:y.k=1) (W:A.WF) (hst:A.steps+200000<1099511627776) (hn:n≤4500) (hi:i<1000000)
  (I:e9 n ls) (hw:ws.length=w.l) (hw5:w.l≤5) (H:aG (dN b f ls::d9 r m ls::OW w ws::bV f A::bd m A::PS b0 y::[old hh0]) hh) (go:sx f m A n i (PS b0 y::[old hh0]) again) :
  tY (some ⟨f,0,none⟩) (some ⟨m,0,none⟩) parts size b0 (some ⟨b,0,none⟩,some ⟨r,0,none⟩,false,w,(i:Int)) hh again Q:=by
 unfold tY
 dsimp only
 refine cB (H.mv 5) rfl ?_
 rw [iF (show ¬ y.k=0 by omega),ab]
 refine cB (H.mv 5) rfl ?_
 rw [kO hk,ae]
 refine cB (i:=1) (H.mv 5) rfl ?_
 refine cB (i:=1) (H.mv 5) rfl ?_
 refine (B3 (part:=y.part) W (by omega) I (H.ordT 7 [0,3,1,2,4,5,6])).mono ?_
 rintro v h2 ⟨rfl,H2⟩
 rw [aL]
 obtain ⟨W',G1,I1,_⟩:=AF.yb (part:=y.part) W I
 refine ⟨rfl,rfl,cB (i:=1) (H2.mv 5) rfl rfl,?_⟩
 refine (zS (part:=y.part) W (by omega) I (H2.ordT 7 [2,4,0,1,3,5,6])).mono ?_
 rintro v h3 ⟨rfl,H3⟩
 rw [aL,bne_self_eq_false,ab]
 exact gw (y:=y) (n:=n+2) W' hi (I1.grow (by omega) (by omega)) hw hw5 (H3.ordT 7 [2,0,4,3,1,5,6]) fun brk' h' hs=>go _ _ brk' w _ h' W' (G1.le (by decide)) hs
set_option maxHeartbeats 1000000 in
theorem vA {b r:Nat} {ls:List aU} {fr:List Rg} {fa:Option Addr} {fl fc:Nat} {Q:Value→Heap→Prop} (W:A.WF) (hn:n≤4500) (hi:i<1000000) (I:e9 n ls) (hw:ws.length=w.l) (hw5:w.l≤5)
  (hfl:fr.length=fl) (hfm:fl<1099511627776) (hfr:∀ G' h',aG (OW w ws::old hh0::G') h'→cv h' fa (fr.flatMap fh))
  (H:aG (dN b f ls::d9 r m ls::OW w ws::bV f A::bd m A::PS b0 y::[old hh0]) hh) (go:sx f m A n i (PS b0 y::[old hh0]) again) :
  E9 (some ⟨f,0,none⟩) (some ⟨m,0,none⟩) b0 (some ⟨b,0,none⟩,some ⟨r,0,none⟩,false,w,(i:Int)) fa fl fc hh again Q:=by
 unfold E9
 dsimp only
 refine cB (i:=2) (H.mv 5) rfl ?_
 refine (BS (k:=n) (most:=y.most) (fun h' H'=>hfr _ h' H') hfl hfm I (H.ordT 7 [0,2,6,1,3,4,5])).mono ?_
 rintro v h1 ⟨q,hq,hout⟩
 have I2:=I.grow (show n≤n+2 by omega) (by omega)
 have same:∀ {h3:Heap},aG (dN b f ls::d9 r m ls::OW w ws::bV f A::bd m A::PS b0 y::[old hh0]) h3→sy (some ⟨f,0,none⟩) (some ⟨m,0,none⟩) b0 (some ⟨b,0,none⟩) (some ⟨r,0,none⟩) false 0 w.a w.l w.c (i:Int) h3 again Q:=fun H3=>
  gw (e:=0) (y:=y) (n:=n+2) W hi I2 hw hw5 H3 fun brk' h' hs=>go _ _ brk' w _ h' W (Gr.same _ A) hs
 rcases hout with ⟨rs,pa,rfl,rfl,H1⟩ | ⟨e,rfl,e0,rfl,H1⟩
 · refine ⟨pa,rs.length,rs.length,0,rfl,?_⟩;refine cB (i:=2) (H1.mv 7) rfl ?_;refine (uk (k:=n) (most:=y.most) (fun h' H'=>hfr _ h' H') hfl hfm I (H1.ordT 8 [4,2,3,0,1,5,6,7])).mono ?_;rintro v h2 ⟨q2,hq2,hout2⟩;have eq:q2=.ok rs:=hq2.uniq hq;subst eq
   rcases hout2 with ⟨rs2,qa,qc,e,rfl,H2⟩ | ⟨e,h,_⟩
   rotate_left
   · cases h
   cases e;refine ⟨qa,rs.length,qc,0,rfl,?_⟩;have hlen5:rs.length≤4:=by
    rcases hq with ⟨h,_⟩ | ⟨_,_,h⟩ | ⟨_,hw0,d,_,hd,_,h⟩
    · cases h
    · cases h
    · cases h;have h1:=(dZ hw0).1;have h2:=I.1;unfold AF.planOf;rw [length_zipWith];omega
   rw [show ((0:Int)!=0)=false from rfl,ab];refine (jF (aH (H2.mv 4)) (aH H2) rfl (by omega)).mono ?_;rintro v h3 ⟨rfl,rfl⟩;rw [bO,aB,ab,show ((0:Int)==0)=true from rfl,ae];refine cB (H2.mv 8) rfl ?_;by_cases k4:y.k=4
   rotate_left
   · rw [iF k4,ab,ab];exact same (H2.ordT 9 [5,1,2,6,7,8,3])
   rw [kO k4,ae];refine (vX (k:=n) (rs:=rs) (F:=aQ 86 2 qa rs.length qc (rs.flatMap fh)::d9 r m ls::bd m A::PS b0 y::[old hh0]) (fun h' H'=>aH H') rfl (by omega) W I (by omega) (H2.ordT 9 [5,6,0,1,7,8,3])).mono ?_;rintro v h4 hout3;have fin:∀ {h5:Heap},aG (d9 r m ls::bd m A::aQ 86 2 qa rs.length qc (rs.flatMap fh)::dN b f ls::bV f A::PS b0 y::[old hh0]) h5→sy (some ⟨f,0,none⟩) (some ⟨m,0,none⟩) b0 (some ⟨b,0,none⟩) (some ⟨r,0,none⟩) false 0 qa rs.length qc (i:Int) h5 again Q:=fun H5=>
    gw (e:=0) (y:=y) (n:=n+2) (w:=⟨qa,rs.length,qc⟩) (ws:=rs) W hi I2 rfl (by dsimp only; omega) (H5.ordT 7 [3,0,2,4,1,5,6]) fun brk' h' hs=>go _ _ brk' ⟨qa,rs.length,qc⟩ _ h' W (Gr.same _ A) hs
   rcases hout3 with ⟨rr,ra,rc,hrd,rfl,H4⟩ | ⟨e,hrd,e0,rfl,H4⟩
   · refine ⟨ra,rr.length,rc,0,rfl,?_⟩;refine (mC (k:=n) (rs:=rs) (F:=aQ 86 2 qa rs.length qc (rs.flatMap fh)::oI ra rc rr::dN b f ls::bV f A::PS b0 y::[old hh0]) (fun h' H'=>aH H') rfl (by omega) W I (by omega) (H4.ordT 8 [4,5,3,0,1,2,6,7])).mono ?_;rintro v h5 (⟨rr2,da,dc,hrd2,rfl,H5⟩ | ⟨e,hrd2,_⟩)
     rotate_left
     · rw [hrd] at hrd2; cases hrd2
     rw [hrd] at hrd2;cases hrd2;refine ⟨da,rr.length,dc,0,rfl,?_⟩;rw [show ((0:Int)!=0)=false from rfl,ab];have hbig:rr.length<1099511627776:=by
      have h1:=(dA H5).1;exact Nat.lt_of_le_of_lt (AF.nn I (by omega) hrd) (by decide)
     refine (ui (H5.mv 4) (aH H5) rfl (AF.oJ W hrd) hbig).mono ?_;rintro v h6 ⟨rfl,rfl⟩;rw [bO,aB,ab,ab];exact fin (H5.ordT 9 [1,2,3,5,6,7,8])
   · refine ⟨none,0,0,(e:Int),rfl,?_⟩;refine (mC (k:=n) (rs:=rs) (F:=aQ 86 2 qa rs.length qc (rs.flatMap fh)::dN b f ls::bV f A::PS b0 y::[old hh0]) (fun h' H'=>aH H') rfl (by omega) W I (by omega) (H4.ordT 7 [3,4,2,0,1,5,6])).mono ?_;rintro v h5 (⟨rr2,da,dc,hrd2,rfl,H5⟩ | ⟨e2,hrd2,_,rfl,H5⟩)
     · rw [hrd] at hrd2; cases hrd2
     rw [hrd] at hrd2;cases hrd2;refine ⟨none,0,0,(e:Int),rfl,?_⟩;rw [bne_self_eq_false,ab];refine uj.mono ?_;rintro v h6 ⟨rfl,rfl⟩;rw [bO,aB,ab,ab];exact fin H5
 · refine ⟨none,0,0,(e:Int),rfl,?_⟩;refine cB (i:=2) (H1.mv 6) rfl ?_;refine (uk (k:=n) (most:=y.most) (fun h' H'=>hfr _ h' H') hfl hfm I (H1.ordT 7 [3,1,2,0,4,5,6])).mono ?_;rintro v h2 ⟨q2,hq2,hout2⟩;have eq:q2=.error e:=hq2.uniq hq;subst eq
   rcases hout2 with ⟨rs2,qa,qc,h,_⟩ | ⟨e2,h,_,rfl,H2⟩
   · cases h
   cases h;refine ⟨none,0,0,(e:Int),rfl,?_⟩;rw [bne_self_eq_false,ab];refine (jF (rs:=[]) (a1:=none) (a2:=none) (n:=0) rfl rfl rfl (by decide)).mono ?_;rintro v h3 ⟨rfl,rfl⟩;rw [bO,aB,ab,kT e0,ab,show ((0:Int)!=0)=false from rfl,ab];exact same (H2.ordT 7 [3,0,1,4,5,6,2])
end
end Go.Proofs.YtdpaiiibndnanaaGreatDoor
