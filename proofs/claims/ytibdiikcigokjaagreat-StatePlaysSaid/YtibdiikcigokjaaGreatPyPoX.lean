/- The document's sums and frames,in the program of seat Z. -/
import Derived.Test.YtibdiikcigokjaaGreatPyRefA
import Derived.Test.YtibdiikcigokjaaGreatPyPlA
import Derived.Test.YtibdiikcigokjaaGreatPyTs
namespace Go.Proofs.YtibdiikcigokjaaGreat
open Go.IntKind (wrap)
open Go.Proofs.Tryz (prog)
open List (getD_eq_getElem?_getD length_drop drop_drop take_append_drop drop_zero getElem?_of_mem not_mem_nil getElem?_drop any_eq_false mem_cons_self)
open Go Go.RowKit
set_option linter.unusedVariables false
set_option linter.unusedSimpArgs false
open Crc (rI gY Tn T)
open Frame (iK cQ cH cX fy iJ tQ dE gh)
theorem Lg {b:ByteArray} {i:Nat} {u:UInt8} (hi:b.data.toList[i]? = some u):bt b (i:Int)=(u.toNat:Int):=by
 unfold bt
 rw [Int.toNat_natCast,hi]
 rfl
theorem Ik {c:Nat} (h:c<4294967296) :
  (bif ((Int.tmod (c:Int) 2):Int)==1 then bq .xor .u64 (wrap .u64 (Int.tdiv (c:Int) 2)) 2197175160 else wrap .u64 (Int.tdiv (c:Int) 2))=((T c:Nat):Int):=by
 have e1:Int.tmod (c:Int) 2=((c%2:Nat):Int):=jb c 2
 have e2:Int.tdiv (c:Int) 2=((c / 2:Nat):Int):=jU c 2
 rw [e1,e2,IntWalk.u64_in _ (by omega)]
 unfold Crc.T
 by_cases ho:c%2=1
 · rw [ho,al rfl];exact BG (a:=c / 2) (b:=2197175160) (by omega) (by decide)
 · have h0:c%2=0:=by omega
   rw [h0,ak (by decide),Nat.xor_zero]
   rfl
theorem Bb {b:ByteArray} (hb:b.size<9223372036854775807) {h:Heap}:aC prog 187 [.string b] h fun v h'=>v=.int .u32 (gY 0 (nb b.data.toList):Nat)∧h'=h:=by
 apply Gv.ap
 unfold L9
 have hlt:∀ i,rI 4294967295 (nb (b.data.toList.take i))<4294967296:=fun i=>Crc.rg _ (by decide) (Hw _)
 have hsz:b.data.toList.length=b.size:=rfl
 refine aU.count b.size (fun i=>(((rI 4294967295 (nb (b.data.toList.take i)):Nat):Int),(i:Int))) (fun s=>((b.size:Int) - s.2).toNat) (fun i hi=>by simp) ?_ ?_
 · intro i again hi ha;rw [af (show ((i:Int)<(b.size:Int)) by omega)];refine ⟨by show (0:Int)≤(i:Int); omega,by show ((i:Int)<(b.size:Int)); omega,?_⟩;obtain ⟨u,hu⟩:∃ u,b.data.toList[i]? = some u:=⟨_,ah (by rw [hsz]; exact hi)⟩
   have hu8:=u.toNat_lt;have hli:=hlt i;have e0:bq .xor .u64 ((rI 4294967295 (nb (b.data.toList.take i)):Nat):Int) (wrap .u64 (u.toNat:Int))=((rI 4294967295 (nb (b.data.toList.take i)) ^^^ u.toNat:Nat):Int):=by
    rw [IntWalk.u64_in _ (by omega)];exact BG (by omega) (by omega)
   simp only [Lg hu,e0];have hc:=Crc.mJ (hlt i) (b:=u.toNat) (by omega);rw [C3 _ _ _ _ hu] at ha;generalize (rI 4294967295 (nb (b.data.toList.take i)) ^^^ u.toNat)=c at ha hc ⊢;refine aU.count 8 (fun j=>(((Tn j c:Nat):Int),(j:Int))) (fun s=>(8 - s.2).toNat) (fun i hi=>by simp) ?_ ?_
   · intro j ag hj hag;rw [af (show ((j:Int)<8) by omega)];refine ⟨by decide,by decide,?_⟩;have hst:=Ik (Crc.zk j hc);rw [uH,← hst] at hag;rw [aH (by omega)]
     cases hd:((Int.tmod ((Tn j c:Nat):Int) 2):Int)==1 with
     | true=>rw [hd] at hag; exact hag
     | false=>rw [hd] at hag; exact hag
   · intro ag;show again (_,_) _;rw [aH (by omega)];exact ha
 · intro again;rw [ae (show ¬ ((b.size:Int)<(b.size:Int)) by omega)];refine ⟨?_,rfl⟩;show Value.int .u32 (wrap .u32 (bq .xor .u64 _ 4294967295))=_;rw [ar (Nat.le_of_eq hsz)];have hl:=Crc.rg (nb b.data.toList) (c:=4294967295) (by decide) (Hw _);rw [show (4294967295:Int)=((4294967295:Nat):Int) from rfl,BG (by omega) (by decide),IntWalk.u32_in _ (by have:=Crc.mJ hl (b:=4294967295) (by decide); omega),Nat.xor_comm]
   rfl
theorem tA {n:Nat} (hn:n<4294967296) {h:Heap} {F:List aG} (hF:aD F h) :
  aC prog 186 [.int .u32 (n:Int)] h fun v h'=>v=.string (cn (iK n))∧aD F h':=by
 apply Gw.ap
 unfold Ma
 refine ⟨by decide,by decide,by decide,by decide,by decide,by decide,aQ hF fun b h' H=>⟨cn (iK n),?_,rfl,H.drop⟩⟩
 have H2:aD (aL 5 1 (some ⟨b,0,none⟩) 4 4 ((iK n).map nv)::F) h':=by
  refine eW H (bP _) (by decide) (by unfold maxLen; decide) rfl ?_;have e1:Int.tdiv (n:Int) 16777216=((n / 16777216:Nat):Int):=jU _ _;have e2:Int.tdiv (n:Int) 65536=((n / 65536:Nat):Int):=jU _ _;have e3:Int.tdiv (n:Int) 256=((n / 256:Nat):Int):=jU _ _;have e4:∀ m:Nat,Int.tmod (m:Int) 256=((m%256:Nat):Int):=fun m=>jb _ _;rw [e1,e2,e3,IntWalk.u32_in ((n / 16777216:Nat):Int) (by omega),IntWalk.u32_in ((n / 65536:Nat):Int) (by omega),IntWalk.u32_in ((n / 256:Nat):Int) (by omega),e4,e4,e4,d9,d9,d9,d9];simp [iK,nv]
 exact fq (aI H2) rfl (iJ n)
theorem tH {s:ByteArray} {h:Heap} {F:List aG} (hF:aD F h) (hm:s.size≤16777208) :
  aC prog 135 [.string s] h fun v h'=>v=.tuple #[.string (cn (cH (sb s))),.int .i64 0]∧aD F h':=by
 apply zy.ap
 unfold Kd
 have hsl:=aW s
 rw [ae (show ¬ ((s.size:Int)>16777208) by omega),aa,IntWalk.u32_in (s.size:Int) (by omega)]
 refine (tA (by omega) hF).mono ?_
 rintro v h1 ⟨rfl,H1⟩
 rw [aR]
 have e1:sb (cn (iK s.size))=iK s.size:=bR (iJ _)
 have z1:(cn (iK s.size)).size=4:=by rw [← aW,e1]; rfl
 refine ⟨by omega,?_⟩
 have e2:sb (cn (iK s.size)++s)=iK s.size++sb s:=by rw [iZ,e1]
 refine (Bb (b:=cn (iK s.size)++s) (by rw [← aW,e2,am,hsl]; simp [iK]; omega)).mono ?_
 rintro v h2 ⟨rfl,rfl⟩
 rw [aK,show nb (cn (iK s.size)++s).data.toList=iK s.size++sb s from e2]
 have hM2:gY 0 (iK s.size++sb s)<4294967296:=uK ((iJ _).append (fx s)) (by decide)
 refine (tA hM2 H1).mono ?_
 rintro v h3 ⟨rfl,H3⟩
 rw [aR]
 have e3:sb (cn (iK (gY 0 (iK s.size++sb s))))=iK (gY 0 (iK s.size++sb s)):=bR (iJ _)
 have z3:(cn (iK (gY 0 (iK s.size++sb s)))).size=4:=by rw [← aW,e3]; rfl
 have e4:sb (cn (iK s.size)++cn (iK (gY 0 (iK s.size++sb s))))=iK s.size++iK (gY 0 (iK s.size++sb s)):=by rw [iZ,e1,e3]
 refine ⟨by omega,by rw [← aW,e4]; simp [iK]; omega,?_,H3⟩
 refine congrArg (fun z=>Value.tuple #[.string z,.int .i64 0]) (gL ?_)
 rw [iZ,e4,bR (gh (fx s))]
 unfold cH
 rw [hsl]
theorem KH {x0 x1 x2 x3:Nat} (h0:x0<256) (h1:x1<256) (h2:x2<256) (h3:x3<256) :
  wrap .u64 ((wrap .u64 ((wrap .u64 ((wrap .u64 ((wrap .u64 (x0:Int))*16777216))+(wrap .u64 ((wrap .u64 (x1:Int))*65536))))+(wrap .u64 ((wrap .u64 (x2:Int))*256))))+(wrap .u64 (x3:Int)))
   = ((x0*16777216+x1*65536+x2*256+x3:Nat):Int):=by
 simp only [IntKind.wrap_u64]
 omega
theorem A9 {s:ByteArray} {p:Nat} {h:Heap} {F:List aG} (hF:aD F h) (hp:p≤s.size) (hs:s.size≤16777216) :
  aC prog 189 [.string s,.int .i64 (p:Int)] h fun v h'=>v=.tuple #[.string (cn (fy ((sb s).drop p)).1),.bool (fy ((sb s).drop p)).2]∧aD F h':=by
 apply Gt.ap
 unfold L7
 have hsl:=aW s
 have h8:=fx s
 have w1:wrap .i64 ((s.size:Int) - (p:Int))=((s.size - p:Nat):Int):=by rw [IntWalk.i64_in _ (by omega)]; omega
 have hbl:((sb s).drop p).length=s.size - p:=by rw [length_drop,hsl]
 rw [ae (show ¬ ((p:Int)<0) by omega),aa,w1]
 by_cases h1:s.size - p<8
 · rw [af (show (((s.size - p:Nat):Int)<8) by omega),ab];refine ⟨?_,hF⟩;unfold fy;rw [al (by omega)]
   rfl
 · rw [ae (show ¬ (((s.size - p:Nat):Int)<8) by omega),aa];have a1:wrap .i64 ((p:Int)+1)=((p+1:Nat):Int):=by rw [IntWalk.i64_in _ (by omega)]; omega
   have a2:wrap .i64 ((p:Int)+2)=((p+2:Nat):Int):=by rw [IntWalk.i64_in _ (by omega)]; omega
   have a3:wrap .i64 ((p:Int)+3)=((p+3:Nat):Int):=by rw [IntWalk.i64_in _ (by omega)]; omega
   have a8:wrap .i64 ((p:Int)+8)=((p+8:Nat):Int):=by rw [IntWalk.i64_in _ (by omega)]; omega
   have get:∀ j,j<4→∃ x,(sb s)[p+j]? = some x∧((sb s).drop p).getD j 0=x∧x<256:=fun j hj=>by
    obtain ⟨x,hx⟩:∃ x,(sb s)[p+j]? = some x:=⟨_,ah (by omega)⟩
    refine ⟨x,hx,?_,h8 x (ai hx)⟩;rw [getD_eq_getElem?_getD,getElem?_drop,hx]
    rfl
   obtain ⟨x0,g0,d0,l0⟩:=get 0 (by decide);obtain ⟨x1,g1,d1,l1⟩:=get 1 (by decide);obtain ⟨x2,g2,d2,l2⟩:=get 2 (by decide);obtain ⟨x3,g3,d3,l3⟩:=get 3 (by decide);have hv:cQ ((sb s).drop p)=x0*16777216+x1*65536+x2*256+x3:=by unfold cQ; rw [d0,d1,d2,d3]
   rw [a1,a2,a3,a8];have hn:=KH l0 l1 l2 l3;rw [← hv] at hn;rw [iO (i:=p) g0,iO (i:=p+1) g1,iO (i:=p+2) g2,iO (i:=p+3) g3];rw [hn];have w4:wrap .u64 (wrap .i64 (((s.size - p:Nat):Int) - 8))=((s.size - p - 8:Nat):Int):=by
    rw [IntWalk.i64_in _ (by omega),IntWalk.u64_in _ (by omega)];omega
   rw [w4];have hvlt:=tQ (h8.drop p);refine ⟨by omega,by omega,by omega,by omega,by omega,by omega,by omega,by omega,?_⟩;by_cases h2:cQ ((sb s).drop p)>s.size - p - 8
   · rw [af (show (((cQ ((sb s).drop p):Nat):Int)>((s.size - p - 8:Nat):Int)) by omega),ab];refine ⟨?_,hF⟩;unfold fy;rw [ak (by omega),al (by omega)]
     rfl
   · rw [ae (show ¬ (((cQ ((sb s).drop p):Nat):Int)>((s.size - p - 8:Nat):Int)) by omega),aa];generalize hN:cQ ((sb s).drop p)=n at *;have w5:wrap .i64 (((p+8:Nat):Int)+wrap .i64 (n:Int))=((p+8+n:Nat):Int):=by
      rw [cv (by omega),IntWalk.i64_in _ (by omega)];omega
     rw [w5];refine ⟨by omega,by omega,by omega,?_⟩;rw [Int.toNat_natCast,Int.toNat_natCast];have e1:sb (s.extract (p+8) (p+8+n))=(((sb s).drop p).drop 8).take n:=by
      rw [cN,drop_drop];congr 1;omega
     have hz:(s.extract (p+8) (p+8+n)).size≤16777208:=by
      rw [← aW,e1,aq];omega
     refine (tH hF hz).mono ?_;rintro v h1 ⟨rfl,H1⟩;refine ⟨_,_,rfl,?_⟩;rw [show ((0:Int)==0)=true from rfl,ab];refine ⟨by omega,by omega,by omega,?_⟩;rw [Int.toNat_natCast,Int.toNat_natCast];refine ⟨?_,H1⟩;have e2:sb (s.extract p (p+8+n))=((sb s).drop p).take (8+n):=by
      rw [cN];congr 1;omega
     have e3:s.extract (p+8) (p+8+n)=cn ((((sb s).drop p).drop 8).take n):=gL (by rw [e1,bR (((h8.drop p).drop 8).take n)]);have hr:fy ((sb s).drop p)=((((sb s).drop p).drop 8).take n,decide (n≤16777208)&&decide (cH ((((sb s).drop p).drop 8).take n)=((sb s).drop p).take (8+n))):=by
      unfold fy;rw [ak (by omega),hN,ak (by omega)]
     rw [hr,gd,e2,bR (gh (fx _)),e1,← e3,af (show n≤16777208 by omega),Bool.true_and]
namespace AF
def Gr (n:Nat) (A B:FS):Prop:=B.steps≤A.steps+n∧B.files.length≤A.files.length+n
theorem Gr.same (n:Nat) (A:FS):Gr n A A:=⟨Nat.le_add_right _ _,Nat.le_add_right _ _⟩
theorem Gr.trans {m n:Nat} {A B C:FS} (h1:Gr m A B) (h2:Gr n B C):Gr (m+n) A C:=⟨by have:=h1.1; have:=h2.1; omega,by have:=h1.2; have:=h2.2; omega⟩
theorem Gr.le {m n:Nat} {A B:FS} (h:Gr m A B) (hl:m≤n):Gr n A B:=⟨by have:=h.1; omega,by have:=h.2; omega⟩
theorem qN (A:FS) (dir:ByteArray):Gr 1 A (A.mkdir dir).1:=by
 have:=dV.act (A:=A) (k:=0) (dir:=dir) (name:=.empty) (b:=.empty) (n:=0) (turn:=0) (ps:=[])
 show dV A _
 simpa [FS.act] using this
theorem sN (A:FS) (dir name:ByteArray):Gr 1 A (A.create dir name).1:=by
 have:=dV.act (A:=A) (k:=1) (dir:=dir) (name:=name) (b:=.empty) (n:=0) (turn:=0) (ps:=[])
 show dV A _
 simpa [FS.act] using this
theorem sO (A:FS) (dir name b:ByteArray):Gr 1 A (A.append dir name (sb b)).1:=by
 have:=dV.act (A:=A) (k:=2) (dir:=dir) (name:=name) (b:=b) (n:=0) (turn:=0) (ps:=[])
 show dV A _
 simpa [FS.act] using this
theorem yW (A:FS) (dir name:ByteArray):Gr 1 A (A.sync dir name).1:=by
 have:=dV.act (A:=A) (k:=3) (dir:=dir) (name:=name) (b:=.empty) (n:=0) (turn:=0) (ps:=[])
 show dV A _
 simpa [FS.act] using this
theorem kJ (A:FS) (dir:ByteArray):Gr 1 A (A.syncDir dir).1:=by
 have:=dV.act (A:=A) (k:=4) (dir:=dir) (name:=.empty) (b:=.empty) (n:=0) (turn:=0) (ps:=[])
 show dV A _
 simpa [FS.act] using this
theorem sM (A:FS) (dir a b:ByteArray):Gr 1 A (A.rename dir a b).1:=by
 have:=dV.act (A:=A) (k:=5) (dir:=dir) (name:=a) (b:=b) (n:=0) (turn:=0) (ps:=[])
 show dV A _
 simpa [FS.act] using this
theorem kg (A:FS) (dir a:ByteArray):Gr 1 A (A.remove dir a).1:=by
 have:=dV.act (A:=A) (k:=6) (dir:=dir) (name:=a) (b:=.empty) (n:=0) (turn:=0) (ps:=[])
 show dV A _
 simpa [FS.act] using this
abbrev Lq (g:FS→FS×Nat):Prop:=∀ A:FS,A.WF→(g A).1.WF∧Gr 1 A (g A).1
theorem oB:∀ (gs:List (FS→FS×Nat)),(∀ g∈gs,Lq g)→∀ A:FS,A.WF→(ge gs A).1.WF∧Gr gs.length A (ge gs A).1
 | [],_,A,W=>⟨W,Gr.same 0 A⟩
 | g::gs,h,A,W=>by
   obtain ⟨W1,G1⟩:=h g (mem_cons_self ..) A W;unfold ge;split
   · obtain ⟨W2,G2⟩:=oB gs (fun g hg=>h g (aB _ hg)) (g A).1 W1;exact ⟨W2,(G1.trans G2).le (by rw [ao]; omega)⟩
   · exact ⟨W1,G1.le (by rw [ao]; omega)⟩
theorem mA (dir name b:ByteArray):∀ g∈eY dir name (sb b),Lq g:=by
 intro g hg
 simp only [eY,ay,not_mem_nil,or_false] at hg
 rcases hg with rfl | rfl | rfl | rfl | rfl
 · exact fun A W=>⟨W.create _ _,sN A _ _⟩
 · exact fun A W=>⟨W.append _ _ (fx b),sO A _ _ _⟩
 · exact fun A W=>⟨W.sync _ _,yW A _ _⟩
 · exact fun A W=>⟨W.rename _ _ _,sM A _ _ _⟩
 · exact fun A W=>⟨W.syncDir _,kJ A _⟩
theorem Cf (dir name b:ByteArray) {A:FS} (W:A.WF):(A.raw dir name (sb b)).1.WF∧Gr 6 A (A.raw dir name (sb b)).1:=by
 unfold FS.raw
 split
 · exact ⟨W,Gr.same 6 A⟩
 · cases A.list dir with
   | error e=>exact ⟨W,Gr.same 6 A⟩
   | ok l=>
     show (ge (gN dir name (sb b) l) A).1.WF∧Gr 6 A (ge (gN dir name (sb b) l) A).1;unfold gN;split
     · exact oB _ (fun g hg=>by
      rcases ay.1 hg with rfl | hg
      · exact fun A W=>⟨W.remove _ _,kg A _ _⟩
      · exact mA dir name b g hg) A W
     · obtain ⟨h1,h2⟩:=oB _ (mA dir name b) A W;exact ⟨h1,h2.le (by show (5:Nat)≤6; decide)⟩
theorem Cg (dir name b:ByteArray) {A:FS} (W:A.WF):(A.put dir name (sb b)).1.WF∧Gr 6 A (A.put dir name (sb b)).1:=by
 unfold FS.put
 split
 · exact ⟨W,Gr.same 6 A⟩
 · have:=Cf dir name (cn (Frame.cH (sb b))) W
   rwa [bR (Frame.gh (fx b))] at this
theorem iV (dir:ByteArray):∀ (l:List ByteArray) (A:FS) (n:Nat),A.WF→(bW dir l A n).1.WF∧Gr l.length A (bW dir l A n).1
 | [],A,n,W=>⟨W,Gr.same 0 A⟩
 | s::l,A,n,W=>by
   unfold bW;split
   · split
     · obtain ⟨W2,G2⟩:=iV dir l (A.remove dir s).1 (n+1) (W.remove _ _);exact ⟨W2,((kg A dir s).trans G2).le (by rw [ao]; omega)⟩
     · exact ⟨W.remove _ _,(kg A dir s).le (by rw [ao]; omega)⟩
   · obtain ⟨W2,G2⟩:=iV dir l A n W;exact ⟨W2,G2.le (by rw [ao]; omega)⟩
theorem nR {dir:ByteArray} {A:FS} (W:A.WF) {ks:List ByteArray} (h:A.list dir=.ok ks):ks.length≤4096:=by
 unfold FS.list at h
 cases hr:A.ready dir [] with
 | error e=>rw [hr] at h; cases h
 | ok i=>
   rw [hr] at h;obtain ⟨_,_,_,_,d,hd,_⟩:=dH hr;simp only [Except.ok.injEq] at h;rw [← h,jp hd,an];exact (W.each d (ai hd)).ok.few
theorem q8 (dir:ByteArray) {A:FS} (W:A.WF):(A.clean dir).1.WF∧Gr 4097 A (A.clean dir).1:=by
 unfold FS.clean
 cases hl:A.list dir with
 | error e=>exact ⟨W,Gr.same _ A⟩
 | ok l=>
   have hf:=nR W hl;obtain ⟨W2,G2⟩:=iV dir l A 0 W;simp only []
   cases hc:bW dir l A 0 with
   | mk B r=>
     rw [hc] at W2 G2
     cases r with
     | error e=>exact ⟨W2,G2.le (by omega)⟩
     | ok n=>
       simp only [];split
       · split
         · exact ⟨W2.syncDir _,(G2.trans (kJ B dir)).le (by omega)⟩
         · exact ⟨W2.syncDir _,(G2.trans (kJ B dir)).le (by omega)⟩
       · exact ⟨W2,G2.le (by omega)⟩
theorem BR (A:FS) (dir:ByteArray):(A.tidy dir).1=(A.clean dir).1:=by
 unfold FS.tidy
 cases hc:A.clean dir with
 | mk B r=>cases r <;> rfl
theorem rM (dir:ByteArray) {A:FS} (W:A.WF):(A.tidy dir).1.WF∧Gr 4097 A (A.tidy dir).1:=by
 rw [BR]
 exact q8 dir W
theorem sf (dir:ByteArray) {A:FS} (W:A.WF):(A.prep dir).1.WF∧Gr 4098 A (A.prep dir).1:=by
 unfold FS.prep
 split
 · split
   · obtain ⟨W2,G2⟩:=rM dir (W.mkdir dir);exact ⟨W2,((qN A dir).trans G2).le (by omega)⟩
   · exact ⟨W.mkdir dir,(qN A dir).le (by omega)⟩
 · obtain ⟨W2,G2⟩:=rM dir W;exact ⟨W2,G2.le (by omega)⟩
end AF
section
variable {m:Nat} {A:AF.FS} {F:List aG} {h:Heap} {dir name b:ByteArray}
theorem Ba {s:ByteArray} {ss:List ByteArray} {a:Option Addr} {l c:Nat} (hr:dw h a (ss.map Value.string)) (hl:ss.length=l) (hm:l<4611686018427387904) :
  aC prog 188 [.slice a l c,.string s] h fun v h'=>h'=h∧v=.bool (ss.any fun k=>decide (k=s)):=by
 apply Gu.ap
 unfold L8
 refine ⟨fun st hh=>hh=h∧∃ i:Nat,st=(i:Int)∧i≤l∧∀ (j:Nat) (k:ByteArray),j<i→ss[j]? = some k→k≠s,fun st _=>((l:Int) - st).toNat,⟨rfl,0,rfl,au _,fun j k hj=>by omega⟩,?_⟩
 rintro st h1 ⟨rfl,i,rfl,hi,hno⟩
 by_cases hlt:i<l
 · rw [af (show ((i:Int)<(l:Int)) by omega),ab];obtain ⟨k,hk⟩:∃ k,ss[i]? = some k:=⟨_,ah (by omega)⟩
   refine eH hr hl hk fun b2 hc=>dl hc ?_;rw [bO];by_cases hks:k=s
   · rw [af hks,ab];refine ⟨by trivial,congrArg Value.bool ?_⟩
     symm
     exact List.any_eq_true.2 ⟨k,ai hk,af hks⟩
   · rw [ae hks,aa,aH (by omega)];refine ⟨⟨by trivial,i+1,rfl,by omega,fun j k' hj hk'=>?_⟩,by show ((l:Int) - ((i+1:Nat):Int)).toNat<((l:Int) - (i:Int)).toNat; omega⟩;by_cases hji:j=i
     · subst hji;rw [hk] at hk';cases hk';exact hks
     · exact hno j k' (by omega) hk'
 · rw [ae (by omega),aa];refine ⟨by trivial,congrArg Value.bool ?_⟩
   symm
   rw [any_eq_false];intro k hk;obtain ⟨j,hj⟩:=getElem?_of_mem hk;have:=hno j k (by have:=(aj.1 hj).1; omega) hj;simpa using this
theorem KA {Q:Value→Heap→Prop} (W:A.WF) (hs:A.steps+10<1099511627776) (hm:A.files.length<1099511627776) (hb:b.size<4611686018427387904) (H:aD (bg m A::F) h)
  (hQ:∀ v h',v=.int .i64 ((AF.ge (AF.eY dir name (sb b)) A).2:Int)→aD (bg m (AF.ge (AF.eY dir name (sb b)) A).1::F) h'→Q v h') :
  aC prog 87 [aJ m,.string dir,.string (AF.fJ++name)] h fun r3 h_3=>
   DI .i64 r3 fun e1=>
   (bif (e1:Int)!=0 then
    Q (.int .i64 e1) h_3
   else
    aC prog 88 [aJ m,.string dir,.string (AF.fJ++name),.string b] h_3 fun r4 h_4=>
    DI .i64 r4 fun e2=>
    (bif (e2:Int)!=0 then
     Q (.int .i64 e2) h_4
    else
     aC prog 89 [aJ m,.string dir,.string (AF.fJ++name)] h_4 fun r5 h_5=>
     DI .i64 r5 fun e3=>
     (bif (e3:Int)!=0 then
      Q (.int .i64 e3) h_5
     else
      aC prog 90 [aJ m,.string dir,.string (AF.fJ++name),.string name] h_5 fun r6 h_6=>
      DI .i64 r6 fun e4=>
      (bif (e4:Int)!=0 then
       Q (.int .i64 e4) h_6
      else
       aC prog 77 [aJ m,.string dir] h_6 fun r7 h_7=>
       DI .i64 r7 fun x3=>
       Q (.int .i64 x3) h_7)))):=by
 have W1:=W.create dir (AF.fJ++name)
 have G1:=(AF.sN A dir (AF.fJ++name)).1
 refine (wP W (by omega) hm H).mono ?_
 rintro v h1 ⟨rfl,H1⟩
 rw [aK]
 unfold AF.eY AF.ge at hQ
 simp only [] at hQ
 generalize A.create dir (AF.fJ++name)=r1 at *
 by_cases e1:r1.2=0
 · rw [ii e1,aa];rw [al e1] at hQ;have W2:=W1.append dir (AF.fJ++name) (fx b);have G2:=(AF.sO r1.1 dir (AF.fJ++name) b).1;refine (wO W1 (by omega) hb H1).mono ?_;rintro v h2 ⟨rfl,H2⟩;rw [aK];unfold AF.ge at hQ;simp only [] at hQ;generalize r1.1.append dir (AF.fJ++name) (sb b)=r2 at *;by_cases e2:r2.2=0
   · rw [ii e2,aa];rw [al e2] at hQ;have W3:=W2.sync dir (AF.fJ++name);have G3:=(AF.yW r2.1 dir (AF.fJ++name)).1;refine (wN W2 (by omega) H2).mono ?_;rintro v h3 ⟨rfl,H3⟩;rw [aK];unfold AF.ge at hQ;simp only [] at hQ;generalize r2.1.sync dir (AF.fJ++name)=r3 at *;by_cases e3:r3.2=0
     · rw [ii e3,aa];rw [al e3] at hQ;have W4:=W3.rename dir (AF.fJ++name) name;have G4:=(AF.sM r3.1 dir (AF.fJ++name) name).1;refine (wM W3 (by omega) H3).mono ?_;rintro v h4 ⟨rfl,H4⟩;rw [aK];unfold AF.ge at hQ;simp only [] at hQ;generalize r3.1.rename dir (AF.fJ++name) name=r4 at *;by_cases e4:r4.2=0
       · rw [ii e4,aa];rw [al e4] at hQ;refine (oh W4 (by omega) H4).mono ?_;rintro v h5 ⟨rfl,H5⟩;rw [aK];unfold AF.ge AF.ge at hQ;simp only [] at hQ;generalize r4.1.syncDir dir=r5 at *;by_cases e5:r5.2=0
         · rw [al e5] at hQ;rw [e5];exact hQ _ _ rfl H5
         · rw [ak e5] at hQ;exact hQ _ _ rfl H5
       · rw [bm e4,ab];rw [ak e4] at hQ;exact hQ _ _ rfl H4
     · rw [bm e3,ab];rw [ak e3] at hQ;exact hQ _ _ rfl H3
   · rw [bm e2,ab];rw [ak e2] at hQ;exact hQ _ _ rfl H2
 · rw [bm e1,ab];rw [ak e1] at hQ;exact hQ _ _ rfl H1
abbrev ON (m:Nat) (r:AF.FS×Nat) (F:List aG):Value→Heap→Prop:=fun v h'=>v=.int .i64 (r.2:Int)∧aD (bg m r.1::F) h'
theorem Bn (W:A.WF) (hs:A.steps+20<1099511627776) (hm:A.files.length+20<1099511627776) (hb:b.size<4611686018427387904) (H:aD (bg m A::F) h) :
  aC prog 136 [aJ m,.string dir,.string name,.string b] h (ON m (A.raw dir name (sb b)) F):=by
 apply GO.ap
 unfold Mo
 by_cases hbig:28<name.size
 · rw [af (show ((name.size:Int)>28) by omega),ab];have e:A.raw dir name (sb b)=(A,65):=by unfold AF.FS.raw; rw [al hbig]
   rw [e];exact ⟨rfl,H⟩
 rw [ae (show ¬ ((name.size:Int)>28) by omega),aa]
 refine ⟨by show 4+name.size≤_; omega,?_⟩
 refine (i9 W H).mono ?_
 rintro v h1 (⟨ks,a,c,hli,rfl,H1⟩ | ⟨e,hli,e0,rfl,H1⟩)
 · refine ⟨a,ks.length,c,0,rfl,?_⟩;rw [show ((0:Int)!=0)=false from rfl,aa];have hf:=AF.nR W hli;refine (Ba (aI H1) rfl (by omega)).mono ?_;rintro v h2 ⟨rfl,rfl⟩;rw [bE];have eraw:A.raw dir name (sb b)=AF.ge (AF.gN dir name (sb b) ks) A:=by unfold AF.FS.raw; rw [ak hbig,hli]
   rw [eraw];have H2:=H1.drop
   cases hc:ks.any fun k=>decide (k=AF.fJ++name) with
   | false=>
     have eall:AF.gN dir name (sb b) ks=AF.eY dir name (sb b):=by unfold AF.gN; rw [hc,ak (by decide)]
     rw [eall];have hc2:(ks.any fun k=>decide (k=⟨#[116,109,112,46]⟩++name))=false:=hc;rw [hc2,aa];exact KA W (by omega) (by omega) hb H2 fun v h' hv hh=>⟨hv,hh⟩
   | true=>
     have eall:AF.gN dir name (sb b) ks=(fun A:AF.FS=>A.remove dir (AF.fJ++name))::AF.eY dir name (sb b):=by unfold AF.gN; rw [hc,al rfl]
     rw [eall];have hc2:(ks.any fun k=>decide (k=⟨#[116,109,112,46]⟩++name))=true:=hc;rw [hc2,ab];have W1:=W.remove dir (AF.fJ++name);have G1:=AF.kg A dir (AF.fJ++name);have g1:=G1.1;have g2:=G1.2;refine (lT W (by omega) H2).mono ?_;rintro v h3 ⟨rfl,H3⟩;rw [aK];unfold AF.ge;simp only [];have et:(⟨#[116,109,112,46]⟩++name:ByteArray)=AF.fJ++name:=rfl;rw [et] at H3 ⊢;generalize A.remove dir (AF.fJ++name)=r1 at *;by_cases e1:r1.2=0
     · rw [ii e1,aa,al e1];exact KA W1 (by omega) (by omega) hb H3 fun v h' hv hh=>⟨hv,hh⟩
     · rw [bm e1,ab,ak e1];exact ⟨rfl,H3⟩
 · refine ⟨none,0,0,(e:Int),rfl,?_⟩;rw [bm e0,ab];have er:A.raw dir name (sb b)=(A,e):=by unfold AF.FS.raw; rw [ak hbig,hli]
   rw [er];exact ⟨rfl,H1⟩
theorem Di (W:A.WF) (hs:A.steps+20<1099511627776) (hm:A.files.length+20<1099511627776) (hb:b.size<4611686018427387904) (H:aD (bg m A::F) h) :
  aC prog 69 [aJ m,.string dir,.string name,.string b] h (ON m (A.put dir name (sb b)) F):=by
 apply Jc.ap
 unfold NZ
 have hbl:=aW b
 by_cases hbig:16777208<b.size
 · have:aC prog 135 [.string b] h fun v h'=>v=.tuple #[.string .empty,.int .i64 50]∧h'=h:=by
    apply zy.ap;unfold Kd;rw [af (show ((b.size:Int)>16777208) by omega),ab];exact ⟨rfl,rfl⟩
   refine this.mono ?_;rintro v h1 ⟨rfl,rfl⟩;refine ⟨_,_,rfl,?_⟩;rw [show ((50:Int)!=0)=true from rfl,ab];have e:A.put dir name (sb b)=(A,50):=by unfold AF.FS.put; rw [al (by omega)]
   rw [e];exact ⟨rfl,H⟩
 · refine (tH H (by omega)).mono ?_;rintro v h1 ⟨rfl,H1⟩;refine ⟨_,_,rfl,?_⟩;rw [show ((0:Int)!=0)=false from rfl,aa];have h8:=Frame.gh (fx b);have hpl:(cn (Frame.cH (sb b))).size=8+b.size:=by rw [← aW,bR h8,Frame.dE,hbl]
   refine (Bn (b:=cn (Frame.cH (sb b))) W hs hm (by omega) H1).mono ?_;rintro v h2 ⟨rfl,H2⟩;rw [aK];rw [bR h8] at H2 ⊢;have e:A.put dir name (sb b)=A.raw dir name (Frame.cH (sb b)):=by unfold AF.FS.put; rw [ak (by omega)]
   rw [e];exact ⟨rfl,H2⟩
theorem Bm (W:A.WF) (H:aD (bg m A::F) h):aC prog 137 [aJ m,.string dir,.string name] h fun v h'=>v=xH (A.get dir name)∧aD (bg m A::F) h':=by
 apply GN.ap
 unfold Mn
 refine (tN W H).mono ?_
 rintro v h1 ⟨rfl,rfl⟩
 unfold AF.FS.get
 cases hr:A.read dir name with
 | error e=>
   have e0:e≠0:=by
    unfold AF.FS.read at hr
    cases he:A.entry dir name with
    | error e2=>rw [he] at hr; cases hr; exact entry_err he
    | ok p=>rw [he] at hr; cases hr
   refine ⟨_,_,rfl,?_⟩;rw [bm e0,ab];exact ⟨rfl,H⟩
 | ok bs=>
   have hbs:bs.length≤16777216∧B8 bs:=by
    unfold AF.FS.read at hr
    cases he:A.entry dir name with
    | error e2=>rw [he] at hr; cases hr
    | ok p=>
      obtain ⟨i,k⟩:=p;obtain ⟨d,y,_,_,_,hy,_⟩:=jk W he;rw [he] at hr;simp only [Except.ok.injEq,AF.re hy] at hr;subst hr;exact ⟨(W.files y (ai hy)).2.1,(W.files y (ai hy)).2.2⟩
   obtain ⟨hbl,h8⟩:=hbs;refine ⟨_,_,rfl,?_⟩;rw [show ((0:Int)!=0)=false from rfl,aa];have hsz:(cn bs).size=bs.length:=by rw [← aW,bR h8]
   refine (A9 (s:=cn bs) (p:=0) H (au _) (by omega)).mono ?_;rintro v h2 ⟨rfl,H2⟩;rw [bR h8,drop_zero];have hf:=Frame.uu h8;have hB:B8 (Frame.fy bs).1:=by
    unfold Frame.fy;split
    · exact fun n hn=>by cases hn
    · split
      · exact fun n hn=>by cases hn
      · exact (h8.drop 8).take _
   have hl1:(Frame.fy bs).1.length≤bs.length:=by
    unfold Frame.fy;split
    · exact au _
    · split
      · exact au _
      · rw [aq,length_drop]; omega
   refine ⟨_,_,rfl,?_⟩;simp only [];rw [hf]
   cases hr2:(Frame.fy bs).2 with
   | false=>
     rw [aA,ab];simp only [Bool.false_eq_true,if_false];exact ⟨rfl,H2⟩
   | true=>
     rw [az,aa];simp only [if_true];have hz:(cn (Frame.fy bs).1).size=(Frame.fy bs).1.length:=by rw [← aW,bR hB]
     rw [hz,hsz,IntWalk.i64_in _ (by omega)];by_cases hl:(Frame.fy bs).1.length+8=bs.length
     · rw [al hl,show ((((Frame.fy bs).1.length:Int)+8)!=(bs.length:Int))=false by rw [bne_eq_false_iff_eq]; omega,aa];exact ⟨rfl,H2⟩
     · rw [ak hl,show ((((Frame.fy bs).1.length:Int)+8)!=(bs.length:Int))=true by rw [bne_iff_ne]; omega,ab];exact ⟨rfl,H2⟩
theorem Bo (W:A.WF) (hs:A.steps+10000<1099511627776) (hm:A.files.length+10000<1099511627776) (H:aD (bg m A::F) h) :
  aC prog 132 [aJ m,.string dir] h fun v h'=>v=CV (A.clean dir).2∧(∀ e,(A.clean dir).2=.error e→e≠0)∧aD (bg m (A.clean dir).1::F) h':=by
 apply GR.ap
 unfold Mr
 refine (i9 W H).mono ?_
 rintro v h1 (⟨ks,a,c,hli,rfl,H1⟩ | ⟨e,hli,e0,rfl,H1⟩)
 · refine ⟨a,ks.length,c,0,rfl,?_⟩;rw [show ((0:Int)!=0)=false from rfl,aa];have hf:=AF.nR W hli;refine ⟨fun st hh=>∃ (i n:Nat) (B:AF.FS),st=((n:Int),(i:Int))∧i≤ks.length∧n≤i∧AF.bW dir (ks.take i) A 0=(B,.ok n)∧aD (aL 9 1 a ks.length c (ks.map Value.string)::bg m B::F) hh,
    fun st _=>((ks.length:Int) - st.2).toNat,⟨0,0,A,rfl,au _,av _,rfl,H1⟩,?_⟩
   rintro st h2 ⟨i,n,B,rfl,hi,hn,hB,H2⟩;have TB:=AF.iV dir (ks.take i) A 0 W;rw [hB] at TB;obtain ⟨WB,GB⟩:=TB;have gb1:=GB.1;have gb2:=GB.2;rw [aq] at gb1 gb2;simp only [];by_cases hlt:i<ks.length
   · rw [af (show ((i:Int)<(ks.length:Int)) by omega),ab];obtain ⟨s,hsi⟩:∃ s,ks[i]? = some s:=⟨_,ah hlt⟩
     have htk:ks.take (i+1)=ks.take i++[s]:=by rw [ax,hsi]; rfl
     have hgo:AF.bW dir (ks.take (i+1)) A 0=AF.bW dir [s] B n:=by rw [htk,AF.eo,hB]
     have on:∀ (n2:Nat) (B2:AF.FS) hx,n2≤n+1→AF.bW dir (ks.take (i+1)) A 0=(B2,.ok n2)→aD (aL 9 1 a ks.length c (ks.map Value.string)::bg m B2::F) hx→
      (∃ (i_1 n_1:Nat) (B_1:AF.FS),((n2:Int),wrap .i64 ((i:Int)+1))=((n_1:Int),(i_1:Int))∧i_1≤ks.length∧n_1≤i_1∧AF.bW dir (ks.take i_1) A 0=(B_1,.ok n_1)∧aD (aL 9 1 a ks.length c (ks.map Value.string)::bg m B_1::F) hx)∧
       ((ks.length:Int) - wrap .i64 ((i:Int)+1)).toNat<((ks.length:Int) - (i:Int)).toNat:=by
      intro n2 B2 hx hn2 hB2 HX;rw [aH (by omega)];exact ⟨⟨i+1,n2,B2,rfl,by omega,by omega,hB2,HX⟩,by omega⟩
     refine eH (aI H2) rfl hsi fun b2 hc=>dl hc ?_;have skip:AF.ke s=false→AF.bW dir (ks.take (i+1)) A 0=(B,.ok n):=fun ht=>by rw [hgo]; unfold AF.bW; rw [ht,ak (by decide)]; rfl
     by_cases h4:4≤s.size
     · rw [af (show ((s.size:Int)≥4) by omega),ab];refine eH (aI H2) rfl hsi fun b3 hc3=>dl hc3 ?_;refine ⟨by omega,by omega,by omega,?_⟩;have et:bL (s.extract (0:Int).toNat (4:Int).toNat) ⟨#[116,109,112,46]⟩=AF.ke s:=by
        unfold AF.ke;rw [af h4,Bool.true_and,gd,cN]
        rfl
       simp only [et]
       cases ht:AF.ke s with
       | false=>
         rw [aa];exact on n B h2 (Nat.le_succ _) (skip ht) H2
       | true=>
         rw [ab];refine eH (aI H2) rfl hsi fun b4 hc4=>dl hc4 ?_;refine (lT WB (by omega) (H2.mv 1)).mono ?_;rintro v h3 ⟨rfl,H3⟩;rw [aK];by_cases e1:(B.remove dir s).2=0
         · rw [ii e1,aa,aH (show n<9223372036854775807 by omega)];refine on (n+1) (B.remove dir s).1 h3 (av _) ?_ (H3.mv 1);rw [hgo];unfold AF.bW;rw [ht,al rfl,al e1]
           rfl
         · rw [bm e1,ab];have hge:AF.bW dir (ks.take (i+1)) A 0=((B.remove dir s).1,.error (B.remove dir s).2):=by
            rw [hgo];unfold AF.bW;rw [ht,al rfl,ak e1]
           have hall:AF.bW dir ks A 0=((B.remove dir s).1,.error (B.remove dir s).2):=by
            have e:ks=ks.take (i+1)++ks.drop (i+1):=(take_append_drop _ _).symm;rw [e,AF.eo,hge]
           have ec:A.clean dir=((B.remove dir s).1,.error (B.remove dir s).2):=by unfold AF.FS.clean; rw [hli]; simp only [hall]
           rw [ec];exact ⟨rfl,fun e he=>by cases he; exact e1,H3.ordT 2 [0]⟩
     · rw [ae (show ¬ ((s.size:Int)≥4) by omega),aa];exact on n B h2 (Nat.le_succ _) (skip (by unfold AF.ke; rw [ae h4,Bool.false_and])) H2
   · rw [ae (show ¬ ((i:Int)<(ks.length:Int)) by omega),aa];rw [ar (by omega)] at hB;by_cases hn0:0<n
     · rw [af (show ((n:Int)>0) by omega),ab];refine (oh WB (by omega) (H2.mv 1)).mono ?_;rintro v h3 ⟨rfl,H3⟩;rw [aK];by_cases e1:(B.syncDir dir).2=0
       · rw [ii e1,aa];have ec:A.clean dir=((B.syncDir dir).1,.ok n):=by unfold AF.FS.clean; rw [hli]; simp only [hB]; rw [al hn0,al e1]
         rw [ec];exact ⟨rfl,fun e he=>(by cases he),H3.ordT 2 [0]⟩
       · rw [bm e1,ab];have ec:A.clean dir=((B.syncDir dir).1,.error (B.syncDir dir).2):=by unfold AF.FS.clean; rw [hli]; simp only [hB]; rw [al hn0,ak e1]
         rw [ec];exact ⟨rfl,fun e he=>by cases he; exact e1,H3.ordT 2 [0]⟩
     · rw [ae (show ¬ ((n:Int)>0) by omega),aa];have ec:A.clean dir=(B,.ok n):=by unfold AF.FS.clean; rw [hli]; simp only [hB]; rw [ak hn0]
       rw [ec];exact ⟨rfl,fun e he=>(by cases he),H2.drop⟩
 · refine ⟨none,0,0,(e:Int),rfl,?_⟩;rw [bm e0,ab];have ec:A.clean dir=(A,.error e):=by unfold AF.FS.clean; rw [hli]
   rw [ec];exact ⟨rfl,fun e' he=>by cases he; exact e0,H1⟩
end
open Go Go.RowKit Go.ChangeShapes Go.WideShapes Go.ChangeAt
section
variable {m:Nat} {A:AF.FS} {F:List aG} {h:Heap} {dir name b:ByteArray}
def C4 (m:Nat) (r:AF.FS×Except Nat (List ByteArray)) (F:List aG) (v:Value) (h':Heap):Prop:=
 (∃ (ks:List ByteArray) (a:Option Addr) (c:Nat),r.2=.ok ks∧v=.tuple #[.slice a ks.length c,.int .i64 0]∧aD (aL 9 1 a ks.length c (ks.map Value.string)::bg m r.1::F) h')∨
  (∃ e:Nat,r.2=.error e∧e≠0∧v=.tuple #[.slice none 0 0,.int .i64 (e:Int)]∧aD (bg m r.1::F) h')
theorem BS {Q:Value→Heap→Prop} (W:A.WF) (hs:A.steps+10000<1099511627776) (hm:A.files.length+10000<1099511627776) (H:aD (bg m A::F) h) (hQ:∀ v h',C4 m (A.tidy dir) F v h'→Q v h') :
  aC prog 132 [aJ m,.string dir] h fun r4 h_4=>
  ∃ (x6:Int),∃ (x7:Int),r4=.tuple #[.int .i64 x6,.int .i64 x7]∧
  (bif (x7:Int)!=0 then
   Q (.tuple #[.slice none 0 0,.int .i64 x7]) h_4
  else
   aC prog 101 [aJ m,.string dir] h_4 fun r5 h_5=>
   ∃ (x8a:Option Addr),∃ (x8l:Nat),∃ (x8c:Nat),∃ (x9:Int),r5=.tuple #[.slice x8a x8l x8c,.int .i64 x9]∧
   Q (.tuple #[.slice x8a x8l x8c,.int .i64 x9]) h_5):=by
 refine (Bo W hs hm H).mono ?_
 rintro v h1 ⟨rfl,he,H1⟩
 have W1:=(AF.q8 dir W).1
 cases hc:(A.clean dir).2 with
 | error e=>
   have e0:=he e hc;refine ⟨0,(e:Int),rfl,?_⟩;rw [bm e0,ab];have et:A.tidy dir=((A.clean dir).1,.error e):=by
    unfold AF.FS.tidy;have:A.clean dir=((A.clean dir).1,.error e):=by rw [← hc]
    rw [this]
   refine hQ _ _ ?_;rw [et];exact .inr ⟨e,rfl,e0,rfl,H1⟩
 | ok n=>
   refine ⟨(n:Int),0,rfl,?_⟩;rw [show ((0:Int)!=0)=false from rfl,aa];have et:A.tidy dir=((A.clean dir).1,(A.clean dir).1.list dir):=by
    unfold AF.FS.tidy;have:A.clean dir=((A.clean dir).1,.ok n):=by rw [← hc]
    rw [this]
   refine (i9 W1 H1).mono ?_;rintro v h2 (⟨ks,a,c,hl,rfl,H2⟩ | ⟨e,hl,e0,rfl,H2⟩)
   · refine ⟨a,ks.length,c,0,rfl,hQ _ _ ?_⟩;rw [et];exact .inl ⟨ks,a,c,hl,rfl,H2⟩
   · refine ⟨none,0,0,(e:Int),rfl,hQ _ _ ?_⟩;rw [et];exact .inr ⟨e,hl,e0,rfl,H2⟩
theorem Dl (W:A.WF) (hs:A.steps+20000<1099511627776) (hm:A.files.length+20000<1099511627776) (H:aD (bg m A::F) h) :
  aC prog 65 [aJ m,.string dir] h (C4 m (A.prep dir) F):=by
 apply Jg.ap
 unfold N4
 refine (i9 W H).mono ?_
 rintro v h1 (⟨ks,a,c,hl,rfl,H1⟩ | ⟨e,hl,e0,rfl,H1⟩)
 · refine ⟨a,ks.length,c,0,rfl,?_⟩;rw [show ((0:Int)==61)=false from rfl,aa];refine BS W (by omega) (by omega) H1.drop fun v h2 hn=>?_;have ep:A.prep dir=A.tidy dir:=by unfold AF.FS.prep; rw [hl]
   rw [ep];exact hn
 · refine ⟨none,0,0,(e:Int),rfl,?_⟩;by_cases h61:e=61
   · subst h61;rw [show (((61:Nat):Int)==61)=true from rfl,ab];have W2:=W.mkdir dir;have G2:=AF.qN A dir;have g1:=G2.1;have g2:=G2.2;refine (wQ W (by omega) H1).mono ?_;rintro v h2 ⟨rfl,H2⟩;rw [aK];by_cases he:(A.mkdir dir).2=0
     · rw [ii he,aa];have ep:A.prep dir=(A.mkdir dir).1.tidy dir:=by
        unfold AF.FS.prep;rw [hl];simp only [he,if_true]
       refine BS W2 (by omega) (by omega) H2 fun v h3 hn=>?_;rw [ep];exact hn
     · rw [bm he,ab];have ep:A.prep dir=((A.mkdir dir).1,.error (A.mkdir dir).2):=by
        unfold AF.FS.prep;rw [hl];simp only [ak he]
       rw [ep];exact .inr ⟨_,rfl,he,rfl,H2⟩
   · have:((e:Int)==61)=false:=by rw [beq_eq_false_iff_ne]; omega
     rw [this,aa];refine BS W (by omega) (by omega) H1 fun v h2 hn=>?_;have ep:A.prep dir=A.tidy dir:=by
      unfold AF.FS.prep;rw [hl];split
      · rename_i he;cases he;exact absurd rfl h61
      · rfl
     rw [ep];exact hn
end
def yd (P:Program) (fs:Array Field) (i off:Nat):Bool:=
 match fs[i]? with
 | some f=>f.offset==off&&wH P f.type
 | none=>false
section
variable {H:Type} {enc:TypeId×Value→H} {P:Program} {w:World} {base:Nat} {spare:Nat→Bool} {held:Bool}
theorem Fg {fs:Array Field} {i off n:Nat} {cs:List Value} {xs:List (DataW H×List MemPlace)} (hf:yd P fs i off=true) (hx:i<xs.length)
  (hr:∀ (i:Nat) (f:Field),fs[i]? = some f→DataW.trod enc P w base spare held n f.type ((cs.drop f.offset).take (P.cellsOf f.type))=xs[i]?) :
  ∃ v:lX,(cs.drop off).take 7=v.cells∧ot w.heap v:=by
 unfold yd at hf
 cases hi:fs[i]? with
 | none=>rw [hi] at hf; cases hf
 | some f=>
   rw [hi] at hf;simp only [aw,beq_iff_eq] at hf;have:=hr i f hi;rw [hf.1,wG hf.2,ah hx] at this;exact C2 hf.2 this
end
end Go.Proofs.YtibdiikcigokjaaGreat
