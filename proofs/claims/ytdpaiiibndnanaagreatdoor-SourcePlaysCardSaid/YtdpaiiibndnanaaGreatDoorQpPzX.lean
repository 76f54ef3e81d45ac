/- The document's sums and frames,in the program of seat Z. -/
import Derived.Test.YtdpaiiibndnanaaGreatDoorQpRefA
import Derived.Test.YtdpaiiibndnanaaGreatDoorQpPlA
import Derived.Test.YtdpaiiibndnanaaGreatDoorQpTm
namespace Go.Proofs.YtdpaiiibndnanaaGreatDoor
open Go.IntKind (wrap)
open Go.Proofs.Tryz (prog)
open List (getD_eq_getElem?_getD length_drop drop_drop take_append_drop getElem?_of_mem not_mem_nil getElem?_drop any_eq_false mem_cons_self)
open Go Go.RowKit
set_option linter.unusedVariables false
set_option linter.unusedSimpArgs false
open Crc (p4 gf Tn T)
open Frame (g6 cC bZ cq fY ci aY gK nY ck dz)
theorem FK {b:ByteArray} {i:Nat} {u:UInt8} (hi:b.data.toList[i]? = some u):bt b (i:Int)=(u.toNat:Int):=by
 unfold bt
 rw [Int.toNat_natCast,hi]
 rfl
theorem Dh {c:Nat} (h:c<4294967296) :
  (bif ((Int.tmod (c:Int) 2):Int)==1 then cf .xor .u64 (wrap .u64 (Int.tdiv (c:Int) 2)) 2197175160 else wrap .u64 (Int.tdiv (c:Int) 2))=((T c:Nat):Int):=by
 have e1:Int.tmod (c:Int) 2=((c%2:Nat):Int):=j8 c 2
 have e2:Int.tdiv (c:Int) 2=((c / 2:Nat):Int):=iu c 2
 rw [e1,e2,IntWalk.u64_in _ (by omega)]
 unfold Crc.T
 by_cases ho:c%2=1
 · rw [ho,an rfl];exact xQ (a:=c / 2) (b:=2197175160) (by omega) (by decide)
 · have h0:c%2=0:=by omega
   rw [h0,am (by decide),Nat.xor_zero]
   rfl
theorem xz {b:ByteArray} (hb:b.size<9223372036854775807) {h:Heap}:aE prog 140 [.string b] h fun v h'=>v=.int .u32 (gf 0 (nb b.data.toList):Nat)∧h'=h:=by
 apply Ck.ap
 unfold GQ
 have hlt:∀ i,p4 4294967295 (nb (b.data.toList.take i))<4294967296:=fun i=>Crc.pG _ (by decide) (CX _)
 have hsz:b.data.toList.length=b.size:=rfl
 refine bf.count b.size (fun i=>(((p4 4294967295 (nb (b.data.toList.take i)):Nat):Int),(i:Int))) (fun s=>((b.size:Int) - s.2).toNat) (fun i hi=>by simp) ?_ ?_
 · intro i again hi ha;rw [ah (show ((i:Int)<(b.size:Int)) by omega)];refine ⟨by show (0:Int)≤(i:Int); omega,by show ((i:Int)<(b.size:Int)); omega,?_⟩;obtain ⟨u,hu⟩:∃ u,b.data.toList[i]? = some u:=⟨_,ai (by rw [hsz]; exact hi)⟩
   have hu8:=u.toNat_lt;have hli:=hlt i;have e0:cf .xor .u64 ((p4 4294967295 (nb (b.data.toList.take i)):Nat):Int) (wrap .u64 (u.toNat:Int))=((p4 4294967295 (nb (b.data.toList.take i)) ^^^ u.toNat:Nat):Int):=by
    rw [IntWalk.u64_in _ (by omega)];exact xQ (by omega) (by omega)
   simp only [FK hu,e0];have hc:=Crc.lx (hlt i) (b:=u.toNat) (by omega);rw [zj _ _ _ _ hu] at ha;generalize (p4 4294967295 (nb (b.data.toList.take i)) ^^^ u.toNat)=c at ha hc ⊢;refine bf.count 8 (fun j=>(((Tn j c:Nat):Int),(j:Int))) (fun s=>(8 - s.2).toNat) (fun i hi=>by simp) ?_ ?_
   · intro j ag hj hag;rw [ah (show ((j:Int)<8) by omega)];refine ⟨by decide,by decide,?_⟩;have hst:=Dh (Crc.vS j hc);rw [sn,← hst] at hag;rw [aN (by omega)]
     cases hd:((Int.tmod ((Tn j c:Nat):Int) 2):Int)==1 with
     | true=>rw [hd] at hag; exact hag
     | false=>rw [hd] at hag; exact hag
   · intro ag;show again (_,_) _;rw [aN (by omega)];exact ha
 · intro again;rw [af (show ¬ ((b.size:Int)<(b.size:Int)) by omega)];refine ⟨?_,rfl⟩;show Value.int .u32 (wrap .u32 (cf .xor .u64 _ 4294967295))=_;rw [av (Nat.le_of_eq hsz)];have hl:=Crc.pG (nb b.data.toList) (c:=4294967295) (by decide) (CX _);rw [show (4294967295:Int)=((4294967295:Nat):Int) from rfl,xQ (by omega) (by decide),IntWalk.u32_in _ (by have:=Crc.lx hl (b:=4294967295) (by decide); omega),Nat.xor_comm]
   rfl
theorem rz {n:Nat} (hn:n<4294967296) {h:Heap} {F:List aF} (hF:aG F h) :
  aE prog 139 [.int .u32 (n:Int)] h fun v h'=>v=.string (dW (g6 n))∧aG F h':=by
 apply Cm.ap
 unfold GR
 refine ⟨by decide,by decide,by decide,by decide,by decide,by decide,aW hF fun b h' H=>⟨dW (g6 n),?_,rfl,H.drop⟩⟩
 have H2:aG (aQ 5 1 (some ⟨b,0,none⟩) 4 4 ((g6 n).map nv)::F) h':=by
  refine fe H (eD _) (by decide) (by unfold maxLen; decide) rfl ?_;have e1:Int.tdiv (n:Int) 16777216=((n / 16777216:Nat):Int):=iu _ _;have e2:Int.tdiv (n:Int) 65536=((n / 65536:Nat):Int):=iu _ _;have e3:Int.tdiv (n:Int) 256=((n / 256:Nat):Int):=iu _ _;have e4:∀ m:Nat,Int.tmod (m:Int) 256=((m%256:Nat):Int):=fun m=>j8 _ _;rw [e1,e2,e3,IntWalk.u32_in ((n / 16777216:Nat):Int) (by omega),IntWalk.u32_in ((n / 65536:Nat):Int) (by omega),IntWalk.u32_in ((n / 256:Nat):Int) (by omega),e4,e4,e4,fu,fu,fu,fu];simp [g6,nv]
 exact fT (aH H2) rfl (gK n)
theorem tU {s:ByteArray} {h:Heap} {F:List aF} (hF:aG F h) (hm:s.size≤16777208) :
  aE prog 97 [.string s] h fun v h'=>v=.tuple #[.string (dW (bZ (sb s))),.int .i64 0]∧aG F h':=by
 apply D2.ap
 unfold Iy
 have hsl:=bE s
 rw [af (show ¬ ((s.size:Int)>16777208) by omega),ab,IntWalk.u32_in (s.size:Int) (by omega)]
 refine (rz (by omega) hF).mono ?_
 rintro v h1 ⟨rfl,H1⟩
 rw [aT]
 have e1:sb (dW (g6 s.size))=g6 s.size:=dx (gK _)
 have z1:(dW (g6 s.size)).size=4:=by rw [← bE,e1]; rfl
 refine ⟨by omega,?_⟩
 have e2:sb (dW (g6 s.size)++s)=g6 s.size++sb s:=by rw [jr,e1]
 refine (xz (b:=dW (g6 s.size)++s) (by rw [← bE,e2,ao,hsl]; simp [g6]; omega)).mono ?_
 rintro v h2 ⟨rfl,rfl⟩
 rw [aL,show nb (dW (g6 s.size)++s).data.toList=g6 s.size++sb s from e2]
 have hM2:gf 0 (g6 s.size++sb s)<4294967296:=su ((gK _).append (gv s)) (by decide)
 refine (rz hM2 H1).mono ?_
 rintro v h3 ⟨rfl,H3⟩
 rw [aT]
 have e3:sb (dW (g6 (gf 0 (g6 s.size++sb s))))=g6 (gf 0 (g6 s.size++sb s)):=dx (gK _)
 have z3:(dW (g6 (gf 0 (g6 s.size++sb s)))).size=4:=by rw [← bE,e3]; rfl
 have e4:sb (dW (g6 s.size)++dW (g6 (gf 0 (g6 s.size++sb s))))=g6 s.size++g6 (gf 0 (g6 s.size++sb s)):=by rw [jr,e1,e3]
 refine ⟨by omega,by rw [← bE,e4]; simp [g6]; omega,?_,H3⟩
 refine congrArg (fun z=>Value.tuple #[.string z,.int .i64 0]) (jL ?_)
 rw [jr,e4,dx (dz (gv s))]
 unfold bZ
 rw [hsl]
theorem Fp {x0 x1 x2 x3:Nat} (h0:x0<256) (h1:x1<256) (h2:x2<256) (h3:x3<256) :
  wrap .u64 ((wrap .u64 ((wrap .u64 ((wrap .u64 ((wrap .u64 (x0:Int))*16777216))+(wrap .u64 ((wrap .u64 (x1:Int))*65536))))+(wrap .u64 ((wrap .u64 (x2:Int))*256))))+(wrap .u64 (x3:Int)))
   = ((x0*16777216+x1*65536+x2*256+x3:Nat):Int):=by
 simp only [IntKind.wrap_u64]
 omega
theorem xn {s:ByteArray} {p:Nat} {h:Heap} {F:List aF} (hF:aG F h) (hp:p≤s.size) (hs:s.size≤16777216) :
  aE prog 168 [.string s,.int .i64 (p:Int)] h fun v h'=>v=.tuple #[.string (dW (fY ((sb s).drop p)).1),.bool (fY ((sb s).drop p)).2]∧aG F h':=by
 apply BW.ap
 unfold GF
 have hsl:=bE s
 have h8:=gv s
 have w1:wrap .i64 ((s.size:Int) - (p:Int))=((s.size - p:Nat):Int):=by rw [IntWalk.i64_in _ (by omega)]; omega
 have hbl:((sb s).drop p).length=s.size - p:=by rw [length_drop,hsl]
 rw [af (show ¬ ((p:Int)<0) by omega),ab,w1]
 by_cases h1:s.size - p<8
 · rw [ah (show (((s.size - p:Nat):Int)<8) by omega),ae];refine ⟨?_,hF⟩;unfold fY;rw [an (by omega)]
   rfl
 · rw [af (show ¬ (((s.size - p:Nat):Int)<8) by omega),ab];have a1:wrap .i64 ((p:Int)+1)=((p+1:Nat):Int):=by rw [IntWalk.i64_in _ (by omega)]; omega
   have a2:wrap .i64 ((p:Int)+2)=((p+2:Nat):Int):=by rw [IntWalk.i64_in _ (by omega)]; omega
   have a3:wrap .i64 ((p:Int)+3)=((p+3:Nat):Int):=by rw [IntWalk.i64_in _ (by omega)]; omega
   have a8:wrap .i64 ((p:Int)+8)=((p+8:Nat):Int):=by rw [IntWalk.i64_in _ (by omega)]; omega
   have get:∀ j,j<4→∃ x,(sb s)[p+j]? = some x∧((sb s).drop p).getD j 0=x∧x<256:=fun j hj=>by
    obtain ⟨x,hx⟩:∃ x,(sb s)[p+j]? = some x:=⟨_,ai (by omega)⟩
    refine ⟨x,hx,?_,h8 x (aj hx)⟩;rw [getD_eq_getElem?_getD,getElem?_drop,hx]
    rfl
   obtain ⟨x0,g0,d0,l0⟩:=get 0 (by decide);obtain ⟨x1,g1,d1,l1⟩:=get 1 (by decide);obtain ⟨x2,g2,d2,l2⟩:=get 2 (by decide);obtain ⟨x3,g3,d3,l3⟩:=get 3 (by decide);have hv:cC ((sb s).drop p)=x0*16777216+x1*65536+x2*256+x3:=by unfold cC; rw [d0,d1,d2,d3]
   rw [a1,a2,a3,a8];have hn:=Fp l0 l1 l2 l3;rw [← hv] at hn;rw [nK (i:=p) g0,nK (i:=p+1) g1,nK (i:=p+2) g2,nK (i:=p+3) g3];rw [hn];have w4:wrap .u64 (wrap .i64 (((s.size - p:Nat):Int) - 8))=((s.size - p - 8:Nat):Int):=by
    rw [IntWalk.i64_in _ (by omega),IntWalk.u64_in _ (by omega)];omega
   rw [w4];have hvlt:=nY (h8.drop p);refine ⟨by omega,by omega,by omega,by omega,by omega,by omega,by omega,by omega,?_⟩;by_cases h2:cC ((sb s).drop p)>s.size - p - 8
   · rw [ah (show (((cC ((sb s).drop p):Nat):Int)>((s.size - p - 8:Nat):Int)) by omega),ae];refine ⟨?_,hF⟩;unfold fY;rw [am (by omega),an (by omega)]
     rfl
   · rw [af (show ¬ (((cC ((sb s).drop p):Nat):Int)>((s.size - p - 8:Nat):Int)) by omega),ab];generalize hN:cC ((sb s).drop p)=n at *;have w5:wrap .i64 (((p+8:Nat):Int)+wrap .i64 (n:Int))=((p+8+n:Nat):Int):=by
      rw [dh (by omega),IntWalk.i64_in _ (by omega)];omega
     rw [w5];refine ⟨by omega,by omega,by omega,?_⟩;rw [Int.toNat_natCast,Int.toNat_natCast];have e1:sb (s.extract (p+8) (p+8+n))=(((sb s).drop p).drop 8).take n:=by
      rw [dR,drop_drop];congr 1;omega
     have hz:(s.extract (p+8) (p+8+n)).size≤16777208:=by
      rw [← bE,e1,au];omega
     refine (tU hF hz).mono ?_;rintro v h1 ⟨rfl,H1⟩;refine ⟨_,_,rfl,?_⟩;rw [show ((0:Int)==0)=true from rfl,ae];refine ⟨by omega,by omega,by omega,?_⟩;rw [Int.toNat_natCast,Int.toNat_natCast];refine ⟨?_,H1⟩;have e2:sb (s.extract p (p+8+n))=((sb s).drop p).take (8+n):=by
      rw [dR];congr 1;omega
     have e3:s.extract (p+8) (p+8+n)=dW ((((sb s).drop p).drop 8).take n):=jL (by rw [e1,dx (((h8.drop p).drop 8).take n)]);have hr:fY ((sb s).drop p)=((((sb s).drop p).drop 8).take n,decide (n≤16777208)&&decide (bZ ((((sb s).drop p).drop 8).take n)=((sb s).drop p).take (8+n))):=by
      unfold fY;rw [am (by omega),hN,am (by omega)]
     rw [hr,gg,e2,dx (dz (gv _)),e1,← e3,ah (show n≤16777208 by omega),Bool.true_and]
namespace AF
def Gr (n:Nat) (A B:FS):Prop:=B.steps≤A.steps+n∧B.files.length≤A.files.length+n
theorem Gr.same (n:Nat) (A:FS):Gr n A A:=⟨Nat.le_add_right _ _,Nat.le_add_right _ _⟩
theorem Gr.trans {m n:Nat} {A B C:FS} (h1:Gr m A B) (h2:Gr n B C):Gr (m+n) A C:=⟨by have:=h1.1; have:=h2.1; omega,by have:=h1.2; have:=h2.2; omega⟩
theorem Gr.le {m n:Nat} {A B:FS} (h:Gr m A B) (hl:m≤n):Gr n A B:=⟨by have:=h.1; omega,by have:=h.2; omega⟩
theorem ph (A:FS) (dir:ByteArray):Gr 1 A (A.mkdir dir).1:=by
 have:=dr.act (A:=A) (k:=0) (dir:=dir) (name:=.empty) (b:=.empty) (n:=0) (turn:=0) (ps:=[])
 show dr A _
 simpa [FS.act] using this
theorem kQ (A:FS) (dir name:ByteArray):Gr 1 A (A.create dir name).1:=by
 have:=dr.act (A:=A) (k:=1) (dir:=dir) (name:=name) (b:=.empty) (n:=0) (turn:=0) (ps:=[])
 show dr A _
 simpa [FS.act] using this
theorem mT (A:FS) (dir name b:ByteArray):Gr 1 A (A.append dir name (sb b)).1:=by
 have:=dr.act (A:=A) (k:=2) (dir:=dir) (name:=name) (b:=b) (n:=0) (turn:=0) (ps:=[])
 show dr A _
 simpa [FS.act] using this
theorem sf (A:FS) (dir name:ByteArray):Gr 1 A (A.sync dir name).1:=by
 have:=dr.act (A:=A) (k:=3) (dir:=dir) (name:=name) (b:=.empty) (n:=0) (turn:=0) (ps:=[])
 show dr A _
 simpa [FS.act] using this
theorem iH (A:FS) (dir:ByteArray):Gr 1 A (A.syncDir dir).1:=by
 have:=dr.act (A:=A) (k:=4) (dir:=dir) (name:=.empty) (b:=.empty) (n:=0) (turn:=0) (ps:=[])
 show dr A _
 simpa [FS.act] using this
theorem qV (A:FS) (dir a b:ByteArray):Gr 1 A (A.rename dir a b).1:=by
 have:=dr.act (A:=A) (k:=5) (dir:=dir) (name:=a) (b:=b) (n:=0) (turn:=0) (ps:=[])
 show dr A _
 simpa [FS.act] using this
theorem ip (A:FS) (dir a:ByteArray):Gr 1 A (A.remove dir a).1:=by
 have:=dr.act (A:=A) (k:=6) (dir:=dir) (name:=a) (b:=.empty) (n:=0) (turn:=0) (ps:=[])
 show dr A _
 simpa [FS.act] using this
abbrev FT (g:FS→FS×Nat):Prop:=∀ A:FS,A.WF→(g A).1.WF∧Gr 1 A (g A).1
theorem mI:∀ (gs:List (FS→FS×Nat)),(∀ g∈gs,FT g)→∀ A:FS,A.WF→(fJ gs A).1.WF∧Gr gs.length A (fJ gs A).1
 | [],_,A,W=>⟨W,Gr.same 0 A⟩
 | g::gs,h,A,W=>by
   obtain ⟨W1,G1⟩:=h g (mem_cons_self ..) A W;unfold fJ;split
   · obtain ⟨W2,G2⟩:=mI gs (fun g hg=>h g (aD _ hg)) (g A).1 W1;exact ⟨W2,(G1.trans G2).le (by rw [ar]; omega)⟩
   · exact ⟨W1,G1.le (by rw [ar]; omega)⟩
theorem lm (dir name b:ByteArray):∀ g∈eh dir name (sb b),FT g:=by
 intro g hg
 simp only [eh,aA,not_mem_nil,or_false] at hg
 rcases hg with rfl | rfl | rfl | rfl | rfl
 · exact fun A W=>⟨W.create _ _,kQ A _ _⟩
 · exact fun A W=>⟨W.append _ _ (gv b),mT A _ _ _⟩
 · exact fun A W=>⟨W.sync _ _,sf A _ _⟩
 · exact fun A W=>⟨W.rename _ _ _,qV A _ _ _⟩
 · exact fun A W=>⟨W.syncDir _,iH A _⟩
theorem yB (dir name b:ByteArray) {A:FS} (W:A.WF):(A.raw dir name (sb b)).1.WF∧Gr 6 A (A.raw dir name (sb b)).1:=by
 unfold FS.raw
 split
 · exact ⟨W,Gr.same 6 A⟩
 · cases A.list dir with
   | error e=>exact ⟨W,Gr.same 6 A⟩
   | ok l=>
     show (fJ (gh dir name (sb b) l) A).1.WF∧Gr 6 A (fJ (gh dir name (sb b) l) A).1;unfold gh;split
     · exact mI _ (fun g hg=>by
      rcases aA.1 hg with rfl | hg
      · exact fun A W=>⟨W.remove _ _,ip A _ _⟩
      · exact lm dir name b g hg) A W
     · obtain ⟨h1,h2⟩:=mI _ (lm dir name b) A W;exact ⟨h1,h2.le (by show (5:Nat)≤6; decide)⟩
theorem ii (dir:ByteArray):∀ (l:List ByteArray) (A:FS) (n:Nat),A.WF→(bU dir l A n).1.WF∧Gr l.length A (bU dir l A n).1
 | [],A,n,W=>⟨W,Gr.same 0 A⟩
 | s::l,A,n,W=>by
   unfold bU;split
   · split
     · obtain ⟨W2,G2⟩:=ii dir l (A.remove dir s).1 (n+1) (W.remove _ _);exact ⟨W2,((ip A dir s).trans G2).le (by rw [ar]; omega)⟩
     · exact ⟨W.remove _ _,(ip A dir s).le (by rw [ar]; omega)⟩
   · obtain ⟨W2,G2⟩:=ii dir l A n W;exact ⟨W2,G2.le (by rw [ar]; omega)⟩
theorem mi {dir:ByteArray} {A:FS} (W:A.WF) {ks:List ByteArray} (h:A.list dir=.ok ks):ks.length≤4096:=by
 unfold FS.list at h
 cases hr:A.ready dir [] with
 | error e=>rw [hr] at h; cases h
 | ok i=>
   rw [hr] at h;obtain ⟨_,_,_,_,d,hd,_⟩:=db hr;simp only [Except.ok.injEq] at h;rw [← h,iR hd,aq];exact (W.each d (aj hd)).ok.few
theorem pE (dir:ByteArray) {A:FS} (W:A.WF):(A.clean dir).1.WF∧Gr 4097 A (A.clean dir).1:=by
 unfold FS.clean
 cases hl:A.list dir with
 | error e=>exact ⟨W,Gr.same _ A⟩
 | ok l=>
   have hf:=mi W hl;obtain ⟨W2,G2⟩:=ii dir l A 0 W;simp only []
   cases hc:bU dir l A 0 with
   | mk B r=>
     rw [hc] at W2 G2
     cases r with
     | error e=>exact ⟨W2,G2.le (by omega)⟩
     | ok n=>
       simp only [];split
       · split
         · exact ⟨W2.syncDir _,(G2.trans (iH B dir)).le (by omega)⟩
         · exact ⟨W2.syncDir _,(G2.trans (iH B dir)).le (by omega)⟩
       · exact ⟨W2,G2.le (by omega)⟩
theorem xY (A:FS) (dir:ByteArray):(A.tidy dir).1=(A.clean dir).1:=by
 unfold FS.tidy
 cases hc:A.clean dir with
 | mk B r=>cases r <;> rfl
theorem ql (dir:ByteArray) {A:FS} (W:A.WF):(A.tidy dir).1.WF∧Gr 4097 A (A.tidy dir).1:=by
 rw [xY]
 exact pE dir W
theorem qA (dir:ByteArray) {A:FS} (W:A.WF):(A.prep dir).1.WF∧Gr 4098 A (A.prep dir).1:=by
 unfold FS.prep
 split
 · split
   · obtain ⟨W2,G2⟩:=ql dir (W.mkdir dir);exact ⟨W2,((ph A dir).trans G2).le (by omega)⟩
   · exact ⟨W.mkdir dir,(ph A dir).le (by omega)⟩
 · obtain ⟨W2,G2⟩:=ql dir W;exact ⟨W2,G2.le (by omega)⟩
end AF
section
variable {m:Nat} {A:AF.FS} {F:List aF} {h:Heap} {dir name b:ByteArray}
theorem xo {s:ByteArray} {ss:List ByteArray} {a:Option Addr} {l c:Nat} (hr:cv h a (ss.map Value.string)) (hl:ss.length=l) (hm:l<4611686018427387904) :
  aE prog 167 [.slice a l c,.string s] h fun v h'=>h'=h∧v=.bool (ss.any fun k=>decide (k=s)):=by
 apply BX.ap
 unfold GG
 refine ⟨fun st hh=>hh=h∧∃ i:Nat,st=(i:Int)∧i≤l∧∀ (j:Nat) (k:ByteArray),j<i→ss[j]? = some k→k≠s,fun st _=>((l:Int) - st).toNat,⟨rfl,0,rfl,aw _,fun j k hj=>by omega⟩,?_⟩
 rintro st h1 ⟨rfl,i,rfl,hi,hno⟩
 by_cases hlt:i<l
 · rw [ah (show ((i:Int)<(l:Int)) by omega),ae];obtain ⟨k,hk⟩:∃ k,ss[i]? = some k:=⟨_,ai (by omega)⟩
   refine dM hr hl hk fun b2 hc=>fE hc ?_;rw [dL];by_cases hks:k=s
   · rw [ah hks,ae];refine ⟨by trivial,congrArg Value.bool ?_⟩
     symm
     exact List.any_eq_true.2 ⟨k,aj hk,ah hks⟩
   · rw [af hks,ab,aN (by omega)];refine ⟨⟨by trivial,i+1,rfl,by omega,fun j k' hj hk'=>?_⟩,by show ((l:Int) - ((i+1:Nat):Int)).toNat<((l:Int) - (i:Int)).toNat; omega⟩;by_cases hji:j=i
     · subst hji;rw [hk] at hk';cases hk';exact hks
     · exact hno j k' (by omega) hk'
 · rw [af (by omega),ab];refine ⟨by trivial,congrArg Value.bool ?_⟩
   symm
   rw [any_eq_false];intro k hk;obtain ⟨j,hj⟩:=getElem?_of_mem hk;have:=hno j k (by have:=(ak.1 hj).1; omega) hj;simpa using this
theorem Fi {Q:Value→Heap→Prop} (W:A.WF) (hs:A.steps+10<1099511627776) (hm:A.files.length<1099511627776) (hb:b.size<4611686018427387904) (H:aG (bd m A::F) h)
  (hQ:∀ v h',v=.int .i64 ((AF.fJ (AF.eh dir name (sb b)) A).2:Int)→aG (bd m (AF.fJ (AF.eh dir name (sb b)) A).1::F) h'→Q v h') :
  aE prog 62 [aM m,.string dir,.string (AF.fg++name)] h fun r3 h_3=>
   DI .i64 r3 fun e1=>
   (bif (e1:Int)!=0 then
    Q (.int .i64 e1) h_3
   else
    aE prog 63 [aM m,.string dir,.string (AF.fg++name),.string b] h_3 fun r4 h_4=>
    DI .i64 r4 fun e2=>
    (bif (e2:Int)!=0 then
     Q (.int .i64 e2) h_4
    else
     aE prog 64 [aM m,.string dir,.string (AF.fg++name)] h_4 fun r5 h_5=>
     DI .i64 r5 fun e3=>
     (bif (e3:Int)!=0 then
      Q (.int .i64 e3) h_5
     else
      aE prog 66 [aM m,.string dir,.string (AF.fg++name),.string name] h_5 fun r6 h_6=>
      DI .i64 r6 fun e4=>
      (bif (e4:Int)!=0 then
       Q (.int .i64 e4) h_6
      else
       aE prog 65 [aM m,.string dir] h_6 fun r7 h_7=>
       DI .i64 r7 fun x3=>
       Q (.int .i64 x3) h_7)))):=by
 have W1:=W.create dir (AF.fg++name)
 have G1:=(AF.kQ A dir (AF.fg++name)).1
 refine (pO W (by omega) hm H).mono ?_
 rintro v h1 ⟨rfl,H1⟩
 rw [aL]
 unfold AF.eh AF.fJ at hQ
 simp only [] at hQ
 generalize A.create dir (AF.fg++name)=r1 at *
 by_cases e1:r1.2=0
 · rw [gQ e1,ab];rw [an e1] at hQ;have W2:=W1.append dir (AF.fg++name) (gv b);have G2:=(AF.mT r1.1 dir (AF.fg++name) b).1;refine (pN W1 (by omega) hb H1).mono ?_;rintro v h2 ⟨rfl,H2⟩;rw [aL];unfold AF.fJ at hQ;simp only [] at hQ;generalize r1.1.append dir (AF.fg++name) (sb b)=r2 at *;by_cases e2:r2.2=0
   · rw [gQ e2,ab];rw [an e2] at hQ;have W3:=W2.sync dir (AF.fg++name);have G3:=(AF.sf r2.1 dir (AF.fg++name)).1;refine (pM W2 (by omega) H2).mono ?_;rintro v h3 ⟨rfl,H3⟩;rw [aL];unfold AF.fJ at hQ;simp only [] at hQ;generalize r2.1.sync dir (AF.fg++name)=r3 at *;by_cases e3:r3.2=0
     · rw [gQ e3,ab];rw [an e3] at hQ;have W4:=W3.rename dir (AF.fg++name) name;have G4:=(AF.qV r3.1 dir (AF.fg++name) name).1;refine (t7 W3 (by omega) H3).mono ?_;rintro v h4 ⟨rfl,H4⟩;rw [aL];unfold AF.fJ at hQ;simp only [] at hQ;generalize r3.1.rename dir (AF.fg++name) name=r4 at *;by_cases e4:r4.2=0
       · rw [gQ e4,ab];rw [an e4] at hQ;refine (kA W4 (by omega) H4).mono ?_;rintro v h5 ⟨rfl,H5⟩;rw [aL];unfold AF.fJ AF.fJ at hQ;simp only [] at hQ;generalize r4.1.syncDir dir=r5 at *;by_cases e5:r5.2=0
         · rw [an e5] at hQ;rw [e5];exact hQ _ _ rfl H5
         · rw [am e5] at hQ;exact hQ _ _ rfl H5
       · rw [aX e4,ae];rw [am e4] at hQ;exact hQ _ _ rfl H4
     · rw [aX e3,ae];rw [am e3] at hQ;exact hQ _ _ rfl H3
   · rw [aX e2,ae];rw [am e2] at hQ;exact hQ _ _ rfl H2
 · rw [aX e1,ae];rw [am e1] at hQ;exact hQ _ _ rfl H1
abbrev Ju (m:Nat) (r:AF.FS×Nat) (F:List aF):Value→Heap→Prop:=fun v h'=>v=.int .i64 (r.2:Int)∧aG (bd m r.1::F) h'
theorem xB (W:A.WF) (hs:A.steps+20<1099511627776) (hm:A.files.length+20<1099511627776) (hb:b.size<4611686018427387904) (H:aG (bd m A::F) h) :
  aE prog 137 [aM m,.string dir,.string name,.string b] h (Ju m (A.raw dir name (sb b)) F):=by
 apply Co.ap
 unfold GT
 by_cases hbig:28<name.size
 · rw [ah (show ((name.size:Int)>28) by omega),ae];have e:A.raw dir name (sb b)=(A,65):=by unfold AF.FS.raw; rw [an hbig]
   rw [e];exact ⟨rfl,H⟩
 rw [af (show ¬ ((name.size:Int)>28) by omega),ab]
 refine ⟨by show 4+name.size≤_; omega,?_⟩
 refine (jE W H).mono ?_
 rintro v h1 (⟨ks,a,c,hli,rfl,H1⟩ | ⟨e,hli,e0,rfl,H1⟩)
 · refine ⟨a,ks.length,c,0,rfl,?_⟩;rw [show ((0:Int)!=0)=false from rfl,ab];have hf:=AF.mi W hli;refine (xo (aH H1) rfl (by omega)).mono ?_;rintro v h2 ⟨rfl,rfl⟩;rw [bO];have eraw:A.raw dir name (sb b)=AF.fJ (AF.gh dir name (sb b) ks) A:=by unfold AF.FS.raw; rw [am hbig,hli]
   rw [eraw];have H2:=H1.drop
   cases hc:ks.any fun k=>decide (k=AF.fg++name) with
   | false=>
     have eall:AF.gh dir name (sb b) ks=AF.eh dir name (sb b):=by unfold AF.gh; rw [hc,am (by decide)]
     rw [eall];have hc2:(ks.any fun k=>decide (k=⟨#[116,109,112,46]⟩++name))=false:=hc;rw [hc2,ab];exact Fi W (by omega) (by omega) hb H2 fun v h' hv hh=>⟨hv,hh⟩
   | true=>
     have eall:AF.gh dir name (sb b) ks=(fun A:AF.FS=>A.remove dir (AF.fg++name))::AF.eh dir name (sb b):=by unfold AF.gh; rw [hc,an rfl]
     rw [eall];have hc2:(ks.any fun k=>decide (k=⟨#[116,109,112,46]⟩++name))=true:=hc;rw [hc2,ae];have W1:=W.remove dir (AF.fg++name);have G1:=AF.ip A dir (AF.fg++name);have g1:=G1.1;have g2:=G1.2;refine (mA W (by omega) H2).mono ?_;rintro v h3 ⟨rfl,H3⟩;rw [aL];unfold AF.fJ;simp only [];have et:(⟨#[116,109,112,46]⟩++name:ByteArray)=AF.fg++name:=rfl;rw [et] at H3 ⊢;generalize A.remove dir (AF.fg++name)=r1 at *;by_cases e1:r1.2=0
     · rw [gQ e1,ab,an e1];exact Fi W1 (by omega) (by omega) hb H3 fun v h' hv hh=>⟨hv,hh⟩
     · rw [aX e1,ae,am e1];exact ⟨rfl,H3⟩
 · refine ⟨none,0,0,(e:Int),rfl,?_⟩;rw [aX e0,ae];have er:A.raw dir name (sb b)=(A,e):=by unfold AF.FS.raw; rw [am hbig,hli]
   rw [er];exact ⟨rfl,H1⟩
theorem xD (W:A.WF) (hs:A.steps+10000<1099511627776) (hm:A.files.length+10000<1099511627776) (H:aG (bd m A::F) h) :
  aE prog 134 [aM m,.string dir] h fun v h'=>v=gJ (A.clean dir).2∧(∀ e,(A.clean dir).2=.error e→e≠0)∧aG (bd m (A.clean dir).1::F) h':=by
 apply Cr.ap
 unfold GW
 refine (jE W H).mono ?_
 rintro v h1 (⟨ks,a,c,hli,rfl,H1⟩ | ⟨e,hli,e0,rfl,H1⟩)
 · refine ⟨a,ks.length,c,0,rfl,?_⟩;rw [show ((0:Int)!=0)=false from rfl,ab];have hf:=AF.mi W hli;refine ⟨fun st hh=>∃ (i n:Nat) (B:AF.FS),st=((n:Int),(i:Int))∧i≤ks.length∧n≤i∧AF.bU dir (ks.take i) A 0=(B,.ok n)∧aG (aQ 9 1 a ks.length c (ks.map Value.string)::bd m B::F) hh,
    fun st _=>((ks.length:Int) - st.2).toNat,⟨0,0,A,rfl,aw _,ax _,rfl,H1⟩,?_⟩
   rintro st h2 ⟨i,n,B,rfl,hi,hn,hB,H2⟩;have TB:=AF.ii dir (ks.take i) A 0 W;rw [hB] at TB;obtain ⟨WB,GB⟩:=TB;have gb1:=GB.1;have gb2:=GB.2;rw [au] at gb1 gb2;simp only [];by_cases hlt:i<ks.length
   · rw [ah (show ((i:Int)<(ks.length:Int)) by omega),ae];obtain ⟨s,hsi⟩:∃ s,ks[i]? = some s:=⟨_,ai hlt⟩
     have htk:ks.take (i+1)=ks.take i++[s]:=by rw [az,hsi]; rfl
     have hgo:AF.bU dir (ks.take (i+1)) A 0=AF.bU dir [s] B n:=by rw [htk,AF.dG,hB]
     have on:∀ (n2:Nat) (B2:AF.FS) hx,n2≤n+1→AF.bU dir (ks.take (i+1)) A 0=(B2,.ok n2)→aG (aQ 9 1 a ks.length c (ks.map Value.string)::bd m B2::F) hx→
      (∃ (i_1 n_1:Nat) (B_1:AF.FS),((n2:Int),wrap .i64 ((i:Int)+1))=((n_1:Int),(i_1:Int))∧i_1≤ks.length∧n_1≤i_1∧AF.bU dir (ks.take i_1) A 0=(B_1,.ok n_1)∧aG (aQ 9 1 a ks.length c (ks.map Value.string)::bd m B_1::F) hx)∧
       ((ks.length:Int) - wrap .i64 ((i:Int)+1)).toNat<((ks.length:Int) - (i:Int)).toNat:=by
      intro n2 B2 hx hn2 hB2 HX;rw [aN (by omega)];exact ⟨⟨i+1,n2,B2,rfl,by omega,by omega,hB2,HX⟩,by omega⟩
     refine dM (aH H2) rfl hsi fun b2 hc=>fE hc ?_;have skip:AF.jw s=false→AF.bU dir (ks.take (i+1)) A 0=(B,.ok n):=fun ht=>by rw [hgo]; unfold AF.bU; rw [ht,am (by decide)]; rfl
     by_cases h4:4≤s.size
     · rw [ah (show ((s.size:Int)≥4) by omega),ae];refine dM (aH H2) rfl hsi fun b3 hc3=>fE hc3 ?_;refine ⟨by omega,by omega,by omega,?_⟩;have et:dm (s.extract (0:Int).toNat (4:Int).toNat) ⟨#[116,109,112,46]⟩=AF.jw s:=by
        unfold AF.jw;rw [ah h4,Bool.true_and,gg,dR]
        rfl
       simp only [et]
       cases ht:AF.jw s with
       | false=>
         rw [ab];exact on n B h2 (Nat.le_succ _) (skip ht) H2
       | true=>
         rw [ae];refine dM (aH H2) rfl hsi fun b4 hc4=>fE hc4 ?_;refine (mA WB (by omega) (H2.mv 1)).mono ?_;rintro v h3 ⟨rfl,H3⟩;rw [aL];by_cases e1:(B.remove dir s).2=0
         · rw [gQ e1,ab,aN (show n<9223372036854775807 by omega)];refine on (n+1) (B.remove dir s).1 h3 (ax _) ?_ (H3.mv 1);rw [hgo];unfold AF.bU;rw [ht,an rfl,an e1]
           rfl
         · rw [aX e1,ae];have hge:AF.bU dir (ks.take (i+1)) A 0=((B.remove dir s).1,.error (B.remove dir s).2):=by
            rw [hgo];unfold AF.bU;rw [ht,an rfl,am e1]
           have hall:AF.bU dir ks A 0=((B.remove dir s).1,.error (B.remove dir s).2):=by
            have e:ks=ks.take (i+1)++ks.drop (i+1):=(take_append_drop _ _).symm;rw [e,AF.dG,hge]
           have ec:A.clean dir=((B.remove dir s).1,.error (B.remove dir s).2):=by unfold AF.FS.clean; rw [hli]; simp only [hall]
           rw [ec];exact ⟨rfl,fun e he=>by cases he; exact e1,H3.ordT 2 [0]⟩
     · rw [af (show ¬ ((s.size:Int)≥4) by omega),ab];exact on n B h2 (Nat.le_succ _) (skip (by unfold AF.jw; rw [af h4,Bool.false_and])) H2
   · rw [af (show ¬ ((i:Int)<(ks.length:Int)) by omega),ab];rw [av (by omega)] at hB;by_cases hn0:0<n
     · rw [ah (show ((n:Int)>0) by omega),ae];refine (kA WB (by omega) (H2.mv 1)).mono ?_;rintro v h3 ⟨rfl,H3⟩;rw [aL];by_cases e1:(B.syncDir dir).2=0
       · rw [gQ e1,ab];have ec:A.clean dir=((B.syncDir dir).1,.ok n):=by unfold AF.FS.clean; rw [hli]; simp only [hB]; rw [an hn0,an e1]
         rw [ec];exact ⟨rfl,fun e he=>(by cases he),H3.ordT 2 [0]⟩
       · rw [aX e1,ae];have ec:A.clean dir=((B.syncDir dir).1,.error (B.syncDir dir).2):=by unfold AF.FS.clean; rw [hli]; simp only [hB]; rw [an hn0,am e1]
         rw [ec];exact ⟨rfl,fun e he=>by cases he; exact e1,H3.ordT 2 [0]⟩
     · rw [af (show ¬ ((n:Int)>0) by omega),ab];have ec:A.clean dir=(B,.ok n):=by unfold AF.FS.clean; rw [hli]; simp only [hB]; rw [am hn0]
       rw [ec];exact ⟨rfl,fun e he=>(by cases he),H2.drop⟩
 · refine ⟨none,0,0,(e:Int),rfl,?_⟩;rw [aX e0,ae];have ec:A.clean dir=(A,.error e):=by unfold AF.FS.clean; rw [hli]
   rw [ec];exact ⟨rfl,fun e' he=>by cases he; exact e0,H1⟩
end
open Go Go.RowKit Go.ChangeShapes Go.WideShapes Go.ChangeAt
section
variable {m:Nat} {A:AF.FS} {F:List aF} {h:Heap} {dir name b:ByteArray}
def zk (m:Nat) (r:AF.FS×Except Nat (List ByteArray)) (F:List aF) (v:Value) (h':Heap):Prop:=
 (∃ (ks:List ByteArray) (a:Option Addr) (c:Nat),r.2=.ok ks∧v=.tuple #[.slice a ks.length c,.int .i64 0]∧aG (aQ 9 1 a ks.length c (ks.map Value.string)::bd m r.1::F) h')∨
  (∃ e:Nat,r.2=.error e∧e≠0∧v=.tuple #[.slice none 0 0,.int .i64 (e:Int)]∧aG (bd m r.1::F) h')
theorem xZ {Q:Value→Heap→Prop} (W:A.WF) (hs:A.steps+10000<1099511627776) (hm:A.files.length+10000<1099511627776) (H:aG (bd m A::F) h) (hQ:∀ v h',zk m (A.tidy dir) F v h'→Q v h') :
  aE prog 134 [aM m,.string dir] h fun r4 h_4=>
  ∃ (x6:Int),∃ (x7:Int),r4=.tuple #[.int .i64 x6,.int .i64 x7]∧
  (bif (x7:Int)!=0 then
   Q (.tuple #[.slice none 0 0,.int .i64 x7]) h_4
  else
   aE prog 79 [aM m,.string dir] h_4 fun r5 h_5=>
   ∃ (x8a:Option Addr),∃ (x8l:Nat),∃ (x8c:Nat),∃ (x9:Int),r5=.tuple #[.slice x8a x8l x8c,.int .i64 x9]∧
   Q (.tuple #[.slice x8a x8l x8c,.int .i64 x9]) h_5):=by
 refine (xD W hs hm H).mono ?_
 rintro v h1 ⟨rfl,he,H1⟩
 have W1:=(AF.pE dir W).1
 cases hc:(A.clean dir).2 with
 | error e=>
   have e0:=he e hc;refine ⟨0,(e:Int),rfl,?_⟩;rw [aX e0,ae];have et:A.tidy dir=((A.clean dir).1,.error e):=by
    unfold AF.FS.tidy;have:A.clean dir=((A.clean dir).1,.error e):=by rw [← hc]
    rw [this]
   refine hQ _ _ ?_;rw [et];exact .inr ⟨e,rfl,e0,rfl,H1⟩
 | ok n=>
   refine ⟨(n:Int),0,rfl,?_⟩;rw [show ((0:Int)!=0)=false from rfl,ab];have et:A.tidy dir=((A.clean dir).1,(A.clean dir).1.list dir):=by
    unfold AF.FS.tidy;have:A.clean dir=((A.clean dir).1,.ok n):=by rw [← hc]
    rw [this]
   refine (jE W1 H1).mono ?_;rintro v h2 (⟨ks,a,c,hl,rfl,H2⟩ | ⟨e,hl,e0,rfl,H2⟩)
   · refine ⟨a,ks.length,c,0,rfl,hQ _ _ ?_⟩;rw [et];exact .inl ⟨ks,a,c,hl,rfl,H2⟩
   · refine ⟨none,0,0,(e:Int),rfl,hQ _ _ ?_⟩;rw [et];exact .inr ⟨e,hl,e0,rfl,H2⟩
theorem zo (W:A.WF) (hs:A.steps+20000<1099511627776) (hm:A.files.length+20000<1099511627776) (H:aG (bd m A::F) h) :
  aE prog 94 [aM m,.string dir] h (zk m (A.prep dir) F):=by
 apply D5.ap
 unfold IB
 refine (jE W H).mono ?_
 rintro v h1 (⟨ks,a,c,hl,rfl,H1⟩ | ⟨e,hl,e0,rfl,H1⟩)
 · refine ⟨a,ks.length,c,0,rfl,?_⟩;rw [show ((0:Int)==61)=false from rfl,ab];refine xZ W (by omega) (by omega) H1.drop fun v h2 hn=>?_;have ep:A.prep dir=A.tidy dir:=by unfold AF.FS.prep; rw [hl]
   rw [ep];exact hn
 · refine ⟨none,0,0,(e:Int),rfl,?_⟩;by_cases h61:e=61
   · subst h61;rw [show (((61:Nat):Int)==61)=true from rfl,ae];have W2:=W.mkdir dir;have G2:=AF.ph A dir;have g1:=G2.1;have g2:=G2.2;refine (ua W (by omega) H1).mono ?_;rintro v h2 ⟨rfl,H2⟩;rw [aL];by_cases he:(A.mkdir dir).2=0
     · rw [gQ he,ab];have ep:A.prep dir=(A.mkdir dir).1.tidy dir:=by
        unfold AF.FS.prep;rw [hl];simp only [he,if_true]
       refine xZ W2 (by omega) (by omega) H2 fun v h3 hn=>?_;rw [ep];exact hn
     · rw [aX he,ae];have ep:A.prep dir=((A.mkdir dir).1,.error (A.mkdir dir).2):=by
        unfold AF.FS.prep;rw [hl];simp only [am he]
       rw [ep];exact .inr ⟨_,rfl,he,rfl,H2⟩
   · have:((e:Int)==61)=false:=by rw [beq_eq_false_iff_ne]; omega
     rw [this,ab];refine xZ W (by omega) (by omega) H1 fun v h2 hn=>?_;have ep:A.prep dir=A.tidy dir:=by
      unfold AF.FS.prep;rw [hl];split
      · rename_i he;cases he;exact absurd rfl h61
      · rfl
     rw [ep];exact hn
end
def uY (P:Program) (fs:Array Field) (i off:Nat):Bool:=
 match fs[i]? with
 | some f=>f.offset==off&&tR P f.type
 | none=>false
section
variable {H:Type} {enc:TypeId×Value→H} {P:Program} {w:World} {base:Nat} {spare:Nat→Bool} {held:Bool}
theorem AP {fs:Array Field} {i off n:Nat} {cs:List Value} {xs:List (DataW H×List MemPlace)} (hf:uY P fs i off=true) (hx:i<xs.length)
  (hr:∀ (i:Nat) (f:Field),fs[i]? = some f→DataW.trod enc P w base spare held n f.type ((cs.drop f.offset).take (P.cellsOf f.type))=xs[i]?) :
  ∃ v:kF,(cs.drop off).take 7=v.cells∧kG w.heap v:=by
 unfold uY at hf
 cases hi:fs[i]? with
 | none=>rw [hi] at hf; cases hf
 | some f=>
   rw [hi] at hf;simp only [ay,beq_iff_eq] at hf;have:=hr i f hi;rw [hf.1,tQ hf.2,ai hx] at this;exact zh hf.2 this
end
end Go.Proofs.YtdpaiiibndnanaaGreatDoor
