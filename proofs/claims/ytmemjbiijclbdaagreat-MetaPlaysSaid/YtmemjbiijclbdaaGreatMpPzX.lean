/- The document's sums and frames,in the program of seat Z. -/
import Derived.Test.YtmemjbiijclbdaaGreatMpRefA
import Derived.Test.YtmemjbiijclbdaaGreatMpPlA
import Derived.Test.YtmemjbiijclbdaaGreatMpTm
namespace Go.Proofs.YtmemjbiijclbdaaGreat
open Go.IntKind (wrap)
open Go.Proofs.Tryz (prog)
open List (getD_eq_getElem?_getD length_drop drop_drop take_append_drop getElem?_map drop_zero getElem?_take getElem?_eq_none getElem?_of_mem not_mem_nil getElem?_drop any_eq_false mem_cons_self)
open Go Go.RowKit
set_option linter.unusedVariables false
set_option linter.unusedSimpArgs false
open Crc (sd g7 Tn T)
open Frame (iP cS dk de fJ iO tX eW iz)
theorem Ka {b:ByteArray} {i:Nat} {u:UInt8} (hi:b.data.toList[i]? = some u):bt b (i:Int)=(u.toNat:Int):=by
 unfold bt
 rw [Int.toNat_natCast,hi]
 rfl
theorem GG {c:Nat} (h:c<4294967296) :
  (bif ((Int.tmod (c:Int) 2):Int)==1 then bq .xor .u64 (wrap .u64 (Int.tdiv (c:Int) 2)) 2197175160 else wrap .u64 (Int.tdiv (c:Int) 2))=((T c:Nat):Int):=by
 have e1:Int.tmod (c:Int) 2=((c%2:Nat):Int):=jc c 2
 have e2:Int.tdiv (c:Int) 2=((c / 2:Nat):Int):=j7 c 2
 rw [e1,e2,IntWalk.u64_in _ (by omega)]
 unfold Crc.T
 by_cases ho:c%2=1
 · rw [ho,al rfl];exact A5 (a:=c / 2) (b:=2197175160) (by omega) (by decide)
 · have h0:c%2=0:=by omega
   rw [h0,ak (by decide),Nat.xor_zero]
   rfl
theorem Au {b:ByteArray} (hb:b.size<9223372036854775807) {h:Heap}:aC prog 172 [.string b] h fun v h'=>v=.int .u32 (g7 0 (nb b.data.toList):Nat)∧h'=h:=by
 apply Fm.ap
 unfold KV
 have hlt:∀ i,sd 4294967295 (nb (b.data.toList.take i))<4294967296:=fun i=>Crc.rB _ (by decide) (Gl _)
 have hsz:b.data.toList.length=b.size:=rfl
 refine aZ.count b.size (fun i=>(((sd 4294967295 (nb (b.data.toList.take i)):Nat):Int),(i:Int))) (fun s=>((b.size:Int) - s.2).toNat) (fun i hi=>by simp) ?_ ?_
 · intro i again hi ha;rw [af (show ((i:Int)<(b.size:Int)) by omega)];refine ⟨by show (0:Int)≤(i:Int); omega,by show ((i:Int)<(b.size:Int)); omega,?_⟩;obtain ⟨u,hu⟩:∃ u,b.data.toList[i]? = some u:=⟨_,ah (by rw [hsz]; exact hi)⟩
   have hu8:=u.toNat_lt;have hli:=hlt i;have e0:bq .xor .u64 ((sd 4294967295 (nb (b.data.toList.take i)):Nat):Int) (wrap .u64 (u.toNat:Int))=((sd 4294967295 (nb (b.data.toList.take i)) ^^^ u.toNat:Nat):Int):=by
    rw [IntWalk.u64_in _ (by omega)];exact A5 (by omega) (by omega)
   simp only [Ka hu,e0];have hc:=Crc.mX (hlt i) (b:=u.toNat) (by omega);rw [Cr _ _ _ _ hu] at ha;generalize (sd 4294967295 (nb (b.data.toList.take i)) ^^^ u.toNat)=c at ha hc ⊢;refine aZ.count 8 (fun j=>(((Tn j c:Nat):Int),(j:Int))) (fun s=>(8 - s.2).toNat) (fun i hi=>by simp) ?_ ?_
   · intro j ag hj hag;rw [af (show ((j:Int)<8) by omega)];refine ⟨by decide,by decide,?_⟩;have hst:=GG (Crc.yW j hc);rw [uO,← hst] at hag;rw [aK (by omega)]
     cases hd:((Int.tmod ((Tn j c:Nat):Int) 2):Int)==1 with
     | true=>rw [hd] at hag; exact hag
     | false=>rw [hd] at hag; exact hag
   · intro ag;show again (_,_) _;rw [aK (by omega)];exact ha
 · intro again;rw [ae (show ¬ ((b.size:Int)<(b.size:Int)) by omega)];refine ⟨?_,rfl⟩;show Value.int .u32 (wrap .u32 (bq .xor .u64 _ 4294967295))=_;rw [ar (Nat.le_of_eq hsz)];have hl:=Crc.rB (nb b.data.toList) (c:=4294967295) (by decide) (Gl _);rw [show (4294967295:Int)=((4294967295:Nat):Int) from rfl,A5 (by omega) (by decide),IntWalk.u32_in _ (by have:=Crc.mX hl (b:=4294967295) (by decide); omega),Nat.xor_comm]
   rfl
theorem tE {n:Nat} (hn:n<4294967296) {h:Heap} {F:List aE} (hF:aD F h) :
  aC prog 171 [.int .u32 (n:Int)] h fun v h'=>v=.string (bT (iP n))∧aD F h':=by
 apply Fp.ap
 unfold KW
 refine ⟨by decide,by decide,by decide,by decide,by decide,by decide,aQ hF fun b h' H=>⟨bT (iP n),?_,rfl,H.drop⟩⟩
 have H2:aD (aL 5 1 (some ⟨b,0,none⟩) 4 4 ((iP n).map nv)::F) h':=by
  refine fB H (bO _) (by decide) (by unfold maxLen; decide) rfl ?_;have e1:Int.tdiv (n:Int) 16777216=((n / 16777216:Nat):Int):=j7 _ _;have e2:Int.tdiv (n:Int) 65536=((n / 65536:Nat):Int):=j7 _ _;have e3:Int.tdiv (n:Int) 256=((n / 256:Nat):Int):=j7 _ _;have e4:∀ m:Nat,Int.tmod (m:Int) 256=((m%256:Nat):Int):=fun m=>jc _ _;rw [e1,e2,e3,IntWalk.u32_in ((n / 16777216:Nat):Int) (by omega),IntWalk.u32_in ((n / 65536:Nat):Int) (by omega),IntWalk.u32_in ((n / 256:Nat):Int) (by omega),e4,e4,e4,ee,ee,ee,ee];simp [iP,nv]
 exact ct (aH H2) rfl (iO n)
theorem tR {s:ByteArray} {h:Heap} {F:List aE} (hF:aD F h) (hm:s.size≤16777208) :
  aC prog 119 [.string s] h fun v h'=>v=.tuple #[.string (bT (dk (sb s))),.int .i64 0]∧aD F h':=by
 apply zd.ap
 unfold Jd
 have hsl:=bd s
 rw [ae (show ¬ ((s.size:Int)>16777208) by omega),aa,IntWalk.u32_in (s.size:Int) (by omega)]
 refine (tE (by omega) hF).mono ?_
 rintro v h1 ⟨rfl,H1⟩
 rw [aW]
 have e1:sb (bT (iP s.size))=iP s.size:=bM (iO _)
 have z1:(bT (iP s.size)).size=4:=by rw [← bd,e1]; rfl
 refine ⟨by omega,?_⟩
 have e2:sb (bT (iP s.size)++s)=iP s.size++sb s:=by rw [i1,e1]
 refine (Au (b:=bT (iP s.size)++s) (by rw [← bd,e2,am,hsl]; simp [iP]; omega)).mono ?_
 rintro v h2 ⟨rfl,rfl⟩
 rw [aJ,show nb (bT (iP s.size)++s).data.toList=iP s.size++sb s from e2]
 have hM2:g7 0 (iP s.size++sb s)<4294967296:=uT ((iO _).append (fT s)) (by decide)
 refine (tE hM2 H1).mono ?_
 rintro v h3 ⟨rfl,H3⟩
 rw [aW]
 have e3:sb (bT (iP (g7 0 (iP s.size++sb s))))=iP (g7 0 (iP s.size++sb s)):=bM (iO _)
 have z3:(bT (iP (g7 0 (iP s.size++sb s)))).size=4:=by rw [← bd,e3]; rfl
 have e4:sb (bT (iP s.size)++bT (iP (g7 0 (iP s.size++sb s))))=iP s.size++iP (g7 0 (iP s.size++sb s)):=by rw [i1,e1,e3]
 refine ⟨by omega,by rw [← bd,e4]; simp [iP]; omega,?_,H3⟩
 refine congrArg (fun z=>Value.tuple #[.string z,.int .i64 0]) (iK ?_)
 rw [i1,e4,bM (iz (fT s))]
 unfold dk
 rw [hsl]
theorem JL {x0 x1 x2 x3:Nat} (h0:x0<256) (h1:x1<256) (h2:x2<256) (h3:x3<256) :
  wrap .u64 ((wrap .u64 ((wrap .u64 ((wrap .u64 ((wrap .u64 (x0:Int))*16777216))+(wrap .u64 ((wrap .u64 (x1:Int))*65536))))+(wrap .u64 ((wrap .u64 (x2:Int))*256))))+(wrap .u64 (x3:Int)))
   = ((x0*16777216+x1*65536+x2*256+x3:Nat):Int):=by
 simp only [IntKind.wrap_u64]
 omega
theorem AL {s:ByteArray} {p:Nat} {h:Heap} {F:List aE} (hF:aD F h) (hp:p≤s.size) (hs:s.size≤16777216) :
  aC prog 117 [.string s,.int .i64 (p:Int)] h fun v h'=>v=.tuple #[.string (bT (fJ ((sb s).drop p)).1),.bool (fJ ((sb s).drop p)).2]∧aD F h':=by
 apply FY.ap
 unfold Lt
 have hsl:=bd s
 have h8:=fT s
 have w1:wrap .i64 ((s.size:Int) - (p:Int))=((s.size - p:Nat):Int):=by rw [IntWalk.i64_in _ (by omega)]; omega
 have hbl:((sb s).drop p).length=s.size - p:=by rw [length_drop,hsl]
 rw [ae (show ¬ ((p:Int)<0) by omega),aa,w1]
 by_cases h1:s.size - p<8
 · rw [af (show (((s.size - p:Nat):Int)<8) by omega),ab];refine ⟨?_,hF⟩;unfold fJ;rw [al (by omega)]
   rfl
 · rw [ae (show ¬ (((s.size - p:Nat):Int)<8) by omega),aa];have a1:wrap .i64 ((p:Int)+1)=((p+1:Nat):Int):=by rw [IntWalk.i64_in _ (by omega)]; omega
   have a2:wrap .i64 ((p:Int)+2)=((p+2:Nat):Int):=by rw [IntWalk.i64_in _ (by omega)]; omega
   have a3:wrap .i64 ((p:Int)+3)=((p+3:Nat):Int):=by rw [IntWalk.i64_in _ (by omega)]; omega
   have a8:wrap .i64 ((p:Int)+8)=((p+8:Nat):Int):=by rw [IntWalk.i64_in _ (by omega)]; omega
   have get:∀ j,j<4→∃ x,(sb s)[p+j]? = some x∧((sb s).drop p).getD j 0=x∧x<256:=fun j hj=>by
    obtain ⟨x,hx⟩:∃ x,(sb s)[p+j]? = some x:=⟨_,ah (by omega)⟩
    refine ⟨x,hx,?_,h8 x (ai hx)⟩;rw [getD_eq_getElem?_getD,getElem?_drop,hx]
    rfl
   obtain ⟨x0,g0,d0,l0⟩:=get 0 (by decide);obtain ⟨x1,g1,d1,l1⟩:=get 1 (by decide);obtain ⟨x2,g2,d2,l2⟩:=get 2 (by decide);obtain ⟨x3,g3,d3,l3⟩:=get 3 (by decide);have hv:cS ((sb s).drop p)=x0*16777216+x1*65536+x2*256+x3:=by unfold cS; rw [d0,d1,d2,d3]
   rw [a1,a2,a3,a8];have hn:=JL l0 l1 l2 l3;rw [← hv] at hn;rw [iG (i:=p) g0,iG (i:=p+1) g1,iG (i:=p+2) g2,iG (i:=p+3) g3];rw [hn];have w4:wrap .u64 (wrap .i64 (((s.size - p:Nat):Int) - 8))=((s.size - p - 8:Nat):Int):=by
    rw [IntWalk.i64_in _ (by omega),IntWalk.u64_in _ (by omega)];omega
   rw [w4];have hvlt:=tX (h8.drop p);refine ⟨by omega,by omega,by omega,by omega,by omega,by omega,by omega,by omega,?_⟩;by_cases h2:cS ((sb s).drop p)>s.size - p - 8
   · rw [af (show (((cS ((sb s).drop p):Nat):Int)>((s.size - p - 8:Nat):Int)) by omega),ab];refine ⟨?_,hF⟩;unfold fJ;rw [ak (by omega),al (by omega)]
     rfl
   · rw [ae (show ¬ (((cS ((sb s).drop p):Nat):Int)>((s.size - p - 8:Nat):Int)) by omega),aa];generalize hN:cS ((sb s).drop p)=n at *;have w5:wrap .i64 (((p+8:Nat):Int)+wrap .i64 (n:Int))=((p+8+n:Nat):Int):=by
      rw [dt (by omega),IntWalk.i64_in _ (by omega)];omega
     rw [w5];refine ⟨by omega,by omega,by omega,?_⟩;rw [Int.toNat_natCast,Int.toNat_natCast];have e1:sb (s.extract (p+8) (p+8+n))=(((sb s).drop p).drop 8).take n:=by
      rw [ff,drop_drop];congr 1;omega
     have hz:(s.extract (p+8) (p+8+n)).size≤16777208:=by
      rw [← bd,e1,aq];omega
     refine (tR hF hz).mono ?_;rintro v h1 ⟨rfl,H1⟩;refine ⟨_,_,rfl,?_⟩;rw [show ((0:Int)==0)=true from rfl,ab];refine ⟨by omega,by omega,by omega,?_⟩;rw [Int.toNat_natCast,Int.toNat_natCast];refine ⟨?_,H1⟩;have e2:sb (s.extract p (p+8+n))=((sb s).drop p).take (8+n):=by
      rw [ff];congr 1;omega
     have e3:s.extract (p+8) (p+8+n)=bT ((((sb s).drop p).drop 8).take n):=iK (by rw [e1,bM (((h8.drop p).drop 8).take n)]);have hr:fJ ((sb s).drop p)=((((sb s).drop p).drop 8).take n,decide (n≤16777208)&&decide (dk ((((sb s).drop p).drop 8).take n)=((sb s).drop p).take (8+n))):=by
      unfold fJ;rw [ak (by omega),hN,ak (by omega)]
     rw [hr,fZ,e2,bM (iz (fT _)),e1,← e3,af (show n≤16777208 by omega),Bool.true_and]
namespace AF
def Gr (n:Nat) (A B:FS):Prop:=B.steps≤A.steps+n∧B.files.length≤A.files.length+n
theorem Gr.same (n:Nat) (A:FS):Gr n A A:=⟨Nat.le_add_right _ _,Nat.le_add_right _ _⟩
theorem Gr.trans {m n:Nat} {A B C:FS} (h1:Gr m A B) (h2:Gr n B C):Gr (m+n) A C:=⟨by have:=h1.1; have:=h2.1; omega,by have:=h1.2; have:=h2.2; omega⟩
theorem Gr.le {m n:Nat} {A B:FS} (h:Gr m A B) (hl:m≤n):Gr n A B:=⟨by have:=h.1; omega,by have:=h.2; omega⟩
theorem q8 (A:FS) (dir:ByteArray):Gr 1 A (A.mkdir dir).1:=by
 have:=d8.act (A:=A) (k:=0) (dir:=dir) (name:=.empty) (b:=.empty) (n:=0) (turn:=0) (ps:=[])
 show d8 A _
 simpa [FS.act] using this
theorem ta (A:FS) (dir name:ByteArray):Gr 1 A (A.create dir name).1:=by
 have:=d8.act (A:=A) (k:=1) (dir:=dir) (name:=name) (b:=.empty) (n:=0) (turn:=0) (ps:=[])
 show d8 A _
 simpa [FS.act] using this
theorem tc (A:FS) (dir name b:ByteArray):Gr 1 A (A.append dir name (sb b)).1:=by
 have:=d8.act (A:=A) (k:=2) (dir:=dir) (name:=name) (b:=b) (n:=0) (turn:=0) (ps:=[])
 show d8 A _
 simpa [FS.act] using this
theorem yL (A:FS) (dir name:ByteArray):Gr 1 A (A.sync dir name).1:=by
 have:=d8.act (A:=A) (k:=3) (dir:=dir) (name:=name) (b:=.empty) (n:=0) (turn:=0) (ps:=[])
 show d8 A _
 simpa [FS.act] using this
theorem kU (A:FS) (dir:ByteArray):Gr 1 A (A.syncDir dir).1:=by
 have:=d8.act (A:=A) (k:=4) (dir:=dir) (name:=.empty) (b:=.empty) (n:=0) (turn:=0) (ps:=[])
 show d8 A _
 simpa [FS.act] using this
theorem s9 (A:FS) (dir a b:ByteArray):Gr 1 A (A.rename dir a b).1:=by
 have:=d8.act (A:=A) (k:=5) (dir:=dir) (name:=a) (b:=b) (n:=0) (turn:=0) (ps:=[])
 show d8 A _
 simpa [FS.act] using this
theorem ku (A:FS) (dir a:ByteArray):Gr 1 A (A.remove dir a).1:=by
 have:=d8.act (A:=A) (k:=6) (dir:=dir) (name:=a) (b:=.empty) (n:=0) (turn:=0) (ps:=[])
 show d8 A _
 simpa [FS.act] using this
abbrev Kj (g:FS→FS×Nat):Prop:=∀ A:FS,A.WF→(g A).1.WF∧Gr 1 A (g A).1
theorem oL:∀ (gs:List (FS→FS×Nat)),(∀ g∈gs,Kj g)→∀ A:FS,A.WF→(gu gs A).1.WF∧Gr gs.length A (gu gs A).1
 | [],_,A,W=>⟨W,Gr.same 0 A⟩
 | g::gs,h,A,W=>by
   obtain ⟨W1,G1⟩:=h g (mem_cons_self ..) A W;unfold gu;split
   · obtain ⟨W2,G2⟩:=oL gs (fun g hg=>h g (aB _ hg)) (g A).1 W1;exact ⟨W2,(G1.trans G2).le (by rw [ao]; omega)⟩
   · exact ⟨W1,G1.le (by rw [ao]; omega)⟩
theorem mO (dir name b:ByteArray):∀ g∈fq dir name (sb b),Kj g:=by
 intro g hg
 simp only [fq,ay,not_mem_nil,or_false] at hg
 rcases hg with rfl | rfl | rfl | rfl | rfl
 · exact fun A W=>⟨W.create _ _,ta A _ _⟩
 · exact fun A W=>⟨W.append _ _ (fT b),tc A _ _ _⟩
 · exact fun A W=>⟨W.sync _ _,yL A _ _⟩
 · exact fun A W=>⟨W.rename _ _ _,s9 A _ _ _⟩
 · exact fun A W=>⟨W.syncDir _,kU A _⟩
theorem BF (dir name b:ByteArray) {A:FS} (W:A.WF):(A.raw dir name (sb b)).1.WF∧Gr 6 A (A.raw dir name (sb b)).1:=by
 unfold FS.raw
 split
 · exact ⟨W,Gr.same 6 A⟩
 · cases A.list dir with
   | error e=>exact ⟨W,Gr.same 6 A⟩
   | ok l=>
     show (gu (gS dir name (sb b) l) A).1.WF∧Gr 6 A (gu (gS dir name (sb b) l) A).1;unfold gS;split
     · exact oL _ (fun g hg=>by
      rcases ay.1 hg with rfl | hg
      · exact fun A W=>⟨W.remove _ _,ku A _ _⟩
      · exact mO dir name b g hg) A W
     · obtain ⟨h1,h2⟩:=oL _ (mO dir name b) A W;exact ⟨h1,h2.le (by show (5:Nat)≤6; decide)⟩
theorem qI (dir name b:ByteArray) {A:FS} (W:A.WF):(A.put dir name (sb b)).1.WF∧Gr 6 A (A.put dir name (sb b)).1:=by
 unfold FS.put
 split
 · exact ⟨W,Gr.same 6 A⟩
 · have:=BF dir name (bT (Frame.dk (sb b))) W
   rwa [bM (Frame.iz (fT b))] at this
theorem iY (dir:ByteArray):∀ (l:List ByteArray) (A:FS) (n:Nat),A.WF→(bW dir l A n).1.WF∧Gr l.length A (bW dir l A n).1
 | [],A,n,W=>⟨W,Gr.same 0 A⟩
 | s::l,A,n,W=>by
   unfold bW;split
   · split
     · obtain ⟨W2,G2⟩:=iY dir l (A.remove dir s).1 (n+1) (W.remove _ _);exact ⟨W2,((ku A dir s).trans G2).le (by rw [ao]; omega)⟩
     · exact ⟨W.remove _ _,(ku A dir s).le (by rw [ao]; omega)⟩
   · obtain ⟨W2,G2⟩:=iY dir l A n W;exact ⟨W2,G2.le (by rw [ao]; omega)⟩
theorem lH {dir:ByteArray} {A:FS} (W:A.WF) {ks:List ByteArray} (h:A.list dir=.ok ks):ks.length≤4096:=by
 unfold FS.list at h
 cases hr:A.ready dir [] with
 | error e=>rw [hr] at h; cases h
 | ok i=>
   rw [hr] at h;obtain ⟨_,_,_,_,d,hd,_⟩:=dD hr;simp only [Except.ok.injEq] at h;rw [← h,jz hd,an];exact (W.each d (ai hd)).ok.few
theorem ry (dir:ByteArray) {A:FS} (W:A.WF):(A.clean dir).1.WF∧Gr 4097 A (A.clean dir).1:=by
 unfold FS.clean
 cases hl:A.list dir with
 | error e=>exact ⟨W,Gr.same _ A⟩
 | ok l=>
   have hf:=lH W hl;obtain ⟨W2,G2⟩:=iY dir l A 0 W;simp only []
   cases hc:bW dir l A 0 with
   | mk B r=>
     rw [hc] at W2 G2
     cases r with
     | error e=>exact ⟨W2,G2.le (by omega)⟩
     | ok n=>
       simp only [];split
       · split
         · exact ⟨W2.syncDir _,(G2.trans (kU B dir)).le (by omega)⟩
         · exact ⟨W2.syncDir _,(G2.trans (kU B dir)).le (by omega)⟩
       · exact ⟨W2,G2.le (by omega)⟩
theorem Bj (A:FS) (dir:ByteArray):(A.tidy dir).1=(A.clean dir).1:=by
 unfold FS.tidy
 cases hc:A.clean dir with
 | mk B r=>cases r <;> rfl
theorem si (dir:ByteArray) {A:FS} (W:A.WF):(A.tidy dir).1.WF∧Gr 4097 A (A.tidy dir).1:=by
 rw [Bj]
 exact ry dir W
theorem sG (dir:ByteArray) {A:FS} (W:A.WF):(A.prep dir).1.WF∧Gr 4098 A (A.prep dir).1:=by
 unfold FS.prep
 split
 · split
   · obtain ⟨W2,G2⟩:=si dir (W.mkdir dir);exact ⟨W2,((q8 A dir).trans G2).le (by omega)⟩
   · exact ⟨W.mkdir dir,(q8 A dir).le (by omega)⟩
 · obtain ⟨W2,G2⟩:=si dir W;exact ⟨W2,G2.le (by omega)⟩
end AF
section
variable {m:Nat} {A:AF.FS} {F:List aE} {h:Heap} {dir name b:ByteArray}
theorem As {s:ByteArray} {ss:List ByteArray} {a:Option Addr} {l c:Nat} (hr:dF h a (ss.map Value.string)) (hl:ss.length=l) (hm:l<4611686018427387904) :
  aC prog 173 [.slice a l c,.string s] h fun v h'=>h'=h∧v=.bool (ss.any fun k=>decide (k=s)):=by
 apply Fl.ap
 unfold KU
 refine ⟨fun st hh=>hh=h∧∃ i:Nat,st=(i:Int)∧i≤l∧∀ (j:Nat) (k:ByteArray),j<i→ss[j]? = some k→k≠s,fun st _=>((l:Int) - st).toNat,⟨rfl,0,rfl,au _,fun j k hj=>by omega⟩,?_⟩
 rintro st h1 ⟨rfl,i,rfl,hi,hno⟩
 by_cases hlt:i<l
 · rw [af (show ((i:Int)<(l:Int)) by omega),ab];obtain ⟨k,hk⟩:∃ k,ss[i]? = some k:=⟨_,ah (by omega)⟩
   refine eR hr hl hk fun b2 hc=>gm hc ?_;rw [eM];by_cases hks:k=s
   · rw [af hks,ab];refine ⟨by trivial,congrArg Value.bool ?_⟩
     symm
     exact List.any_eq_true.2 ⟨k,ai hk,af hks⟩
   · rw [ae hks,aa,aK (by omega)];refine ⟨⟨by trivial,i+1,rfl,by omega,fun j k' hj hk'=>?_⟩,by show ((l:Int) - ((i+1:Nat):Int)).toNat<((l:Int) - (i:Int)).toNat; omega⟩;by_cases hji:j=i
     · subst hji;rw [hk] at hk';cases hk';exact hks
     · exact hno j k' (by omega) hk'
 · rw [ae (by omega),aa];refine ⟨by trivial,congrArg Value.bool ?_⟩
   symm
   rw [any_eq_false];intro k hk;obtain ⟨j,hj⟩:=getElem?_of_mem hk;have:=hno j k (by have:=(aj.1 hj).1; omega) hj;simpa using this
theorem JC {Q:Value→Heap→Prop} (W:A.WF) (hs:A.steps+10<1099511627776) (hm:A.files.length<1099511627776) (hb:b.size<4611686018427387904) (H:aD (bp m A::F) h)
  (hQ:∀ v h',v=.int .i64 ((AF.gu (AF.fq dir name (sb b)) A).2:Int)→aD (bp m (AF.gu (AF.fq dir name (sb b)) A).1::F) h'→Q v h') :
  aC prog 76 [aI m,.string dir,.string (AF.fV++name)] h fun r3 h_3=>
   DI .i64 r3 fun e1=>
   (bif (e1:Int)!=0 then
    Q (.int .i64 e1) h_3
   else
    aC prog 77 [aI m,.string dir,.string (AF.fV++name),.string b] h_3 fun r4 h_4=>
    DI .i64 r4 fun e2=>
    (bif (e2:Int)!=0 then
     Q (.int .i64 e2) h_4
    else
     aC prog 78 [aI m,.string dir,.string (AF.fV++name)] h_4 fun r5 h_5=>
     DI .i64 r5 fun e3=>
     (bif (e3:Int)!=0 then
      Q (.int .i64 e3) h_5
     else
      aC prog 80 [aI m,.string dir,.string (AF.fV++name),.string name] h_5 fun r6 h_6=>
      DI .i64 r6 fun e4=>
      (bif (e4:Int)!=0 then
       Q (.int .i64 e4) h_6
      else
       aC prog 79 [aI m,.string dir] h_6 fun r7 h_7=>
       DI .i64 r7 fun x3=>
       Q (.int .i64 x3) h_7)))):=by
 have W1:=W.create dir (AF.fV++name)
 have G1:=(AF.ta A dir (AF.fV++name)).1
 refine (wL W (by omega) hm H).mono ?_
 rintro v h1 ⟨rfl,H1⟩
 rw [aJ]
 unfold AF.fq AF.gu at hQ
 simp only [] at hQ
 generalize A.create dir (AF.fV++name)=r1 at *
 by_cases e1:r1.2=0
 · rw [iu e1,aa];rw [al e1] at hQ;have W2:=W1.append dir (AF.fV++name) (fT b);have G2:=(AF.tc r1.1 dir (AF.fV++name) b).1;refine (wK W1 (by omega) hb H1).mono ?_;rintro v h2 ⟨rfl,H2⟩;rw [aJ];unfold AF.gu at hQ;simp only [] at hQ;generalize r1.1.append dir (AF.fV++name) (sb b)=r2 at *;by_cases e2:r2.2=0
   · rw [iu e2,aa];rw [al e2] at hQ;have W3:=W2.sync dir (AF.fV++name);have G3:=(AF.yL r2.1 dir (AF.fV++name)).1;refine (wJ W2 (by omega) H2).mono ?_;rintro v h3 ⟨rfl,H3⟩;rw [aJ];unfold AF.gu at hQ;simp only [] at hQ;generalize r2.1.sync dir (AF.fV++name)=r3 at *;by_cases e3:r3.2=0
     · rw [iu e3,aa];rw [al e3] at hQ;have W4:=W3.rename dir (AF.fV++name) name;have G4:=(AF.s9 r3.1 dir (AF.fV++name) name).1;refine (wI W3 (by omega) H3).mono ?_;rintro v h4 ⟨rfl,H4⟩;rw [aJ];unfold AF.gu at hQ;simp only [] at hQ;generalize r3.1.rename dir (AF.fV++name) name=r4 at *;by_cases e4:r4.2=0
       · rw [iu e4,aa];rw [al e4] at hQ;refine (oB W4 (by omega) H4).mono ?_;rintro v h5 ⟨rfl,H5⟩;rw [aJ];unfold AF.gu AF.gu at hQ;simp only [] at hQ;generalize r4.1.syncDir dir=r5 at *;by_cases e5:r5.2=0
         · rw [al e5] at hQ;rw [e5];exact hQ _ _ rfl H5
         · rw [ak e5] at hQ;exact hQ _ _ rfl H5
       · rw [bo e4,ab];rw [ak e4] at hQ;exact hQ _ _ rfl H4
     · rw [bo e3,ab];rw [ak e3] at hQ;exact hQ _ _ rfl H3
   · rw [bo e2,ab];rw [ak e2] at hQ;exact hQ _ _ rfl H2
 · rw [bo e1,ab];rw [ak e1] at hQ;exact hQ _ _ rfl H1
abbrev Nv (m:Nat) (r:AF.FS×Nat) (F:List aE):Value→Heap→Prop:=fun v h'=>v=.int .i64 (r.2:Int)∧aD (bp m r.1::F) h'
theorem AJ (W:A.WF) (hs:A.steps+20<1099511627776) (hm:A.files.length+20<1099511627776) (hb:b.size<4611686018427387904) (H:aD (bp m A::F) h) :
  aC prog 120 [aI m,.string dir,.string name,.string b] h (Nv m (A.raw dir name (sb b)) F):=by
 apply FV.ap
 unfold Lr
 by_cases hbig:28<name.size
 · rw [af (show ((name.size:Int)>28) by omega),ab];have e:A.raw dir name (sb b)=(A,65):=by unfold AF.FS.raw; rw [al hbig]
   rw [e];exact ⟨rfl,H⟩
 rw [ae (show ¬ ((name.size:Int)>28) by omega),aa]
 refine ⟨by show 4+name.size≤_; omega,?_⟩
 refine (kD W H).mono ?_
 rintro v h1 (⟨ks,a,c,hli,rfl,H1⟩ | ⟨e,hli,e0,rfl,H1⟩)
 · refine ⟨a,ks.length,c,0,rfl,?_⟩;rw [show ((0:Int)!=0)=false from rfl,aa];have hf:=AF.lH W hli;refine (As (aH H1) rfl (by omega)).mono ?_;rintro v h2 ⟨rfl,rfl⟩;rw [cd];have eraw:A.raw dir name (sb b)=AF.gu (AF.gS dir name (sb b) ks) A:=by unfold AF.FS.raw; rw [ak hbig,hli]
   rw [eraw];have H2:=H1.drop
   cases hc:ks.any fun k=>decide (k=AF.fV++name) with
   | false=>
     have eall:AF.gS dir name (sb b) ks=AF.fq dir name (sb b):=by unfold AF.gS; rw [hc,ak (by decide)]
     rw [eall];have hc2:(ks.any fun k=>decide (k=⟨#[116,109,112,46]⟩++name))=false:=hc;rw [hc2,aa];exact JC W (by omega) (by omega) hb H2 fun v h' hv hh=>⟨hv,hh⟩
   | true=>
     have eall:AF.gS dir name (sb b) ks=(fun A:AF.FS=>A.remove dir (AF.fV++name))::AF.fq dir name (sb b):=by unfold AF.gS; rw [hc,al rfl]
     rw [eall];have hc2:(ks.any fun k=>decide (k=⟨#[116,109,112,46]⟩++name))=true:=hc;rw [hc2,ab];have W1:=W.remove dir (AF.fV++name);have G1:=AF.ku A dir (AF.fV++name);have g1:=G1.1;have g2:=G1.2;refine (oA W (by omega) H2).mono ?_;rintro v h3 ⟨rfl,H3⟩;rw [aJ];unfold AF.gu;simp only [];have et:(⟨#[116,109,112,46]⟩++name:ByteArray)=AF.fV++name:=rfl;rw [et] at H3 ⊢;generalize A.remove dir (AF.fV++name)=r1 at *;by_cases e1:r1.2=0
     · rw [iu e1,aa,al e1];exact JC W1 (by omega) (by omega) hb H3 fun v h' hv hh=>⟨hv,hh⟩
     · rw [bo e1,ab,ak e1];exact ⟨rfl,H3⟩
 · refine ⟨none,0,0,(e:Int),rfl,?_⟩;rw [bo e0,ab];have er:A.raw dir name (sb b)=(A,e):=by unfold AF.FS.raw; rw [ak hbig,hli]
   rw [er];exact ⟨rfl,H1⟩
theorem wO (W:A.WF) (hs:A.steps+20<1099511627776) (hm:A.files.length+20<1099511627776) (hb:b.size<4611686018427387904) (H:aD (bp m A::F) h) :
  aC prog 61 [aI m,.string dir,.string name,.string b] h (Nv m (A.put dir name (sb b)) F):=by
 apply Ib.ap
 unfold MG
 have hbl:=bd b
 by_cases hbig:16777208<b.size
 · have:aC prog 119 [.string b] h fun v h'=>v=.tuple #[.string .empty,.int .i64 50]∧h'=h:=by
    apply zd.ap;unfold Jd;rw [af (show ((b.size:Int)>16777208) by omega),ab];exact ⟨rfl,rfl⟩
   refine this.mono ?_;rintro v h1 ⟨rfl,rfl⟩;refine ⟨_,_,rfl,?_⟩;rw [show ((50:Int)!=0)=true from rfl,ab];have e:A.put dir name (sb b)=(A,50):=by unfold AF.FS.put; rw [al (by omega)]
   rw [e];exact ⟨rfl,H⟩
 · refine (tR H (by omega)).mono ?_;rintro v h1 ⟨rfl,H1⟩;refine ⟨_,_,rfl,?_⟩;rw [show ((0:Int)!=0)=false from rfl,aa];have h8:=Frame.iz (fT b);have hpl:(bT (Frame.dk (sb b))).size=8+b.size:=by rw [← bd,bM h8,Frame.eW,hbl]
   refine (AJ (b:=bT (Frame.dk (sb b))) W hs hm (by omega) H1).mono ?_;rintro v h2 ⟨rfl,H2⟩;rw [aJ];rw [bM h8] at H2 ⊢;have e:A.put dir name (sb b)=A.raw dir name (Frame.dk (sb b)):=by unfold AF.FS.put; rw [ak (by omega)]
   rw [e];exact ⟨rfl,H2⟩
theorem wP (W:A.WF) (H:aD (bp m A::F) h):aC prog 56 [aI m,.string dir,.string name] h fun v h'=>v=xp (A.get dir name)∧aD (bp m A::F) h':=by
 apply Ig.ap
 unfold ML
 refine (wF W H).mono ?_
 rintro v h1 ⟨rfl,rfl⟩
 unfold AF.FS.get
 cases hr:A.read dir name with
 | error e=>
   have e0:e≠0:=by
    unfold AF.FS.read at hr
    cases he:A.entry dir name with
    | error e2=>rw [he] at hr; cases hr; exact entry_err he
    | ok p=>rw [he] at hr; cases hr
   refine ⟨_,_,rfl,?_⟩;rw [bo e0,ab];exact ⟨rfl,H⟩
 | ok bs=>
   have hbs:bs.length≤16777216∧B8 bs:=by
    unfold AF.FS.read at hr
    cases he:A.entry dir name with
    | error e2=>rw [he] at hr; cases hr
    | ok p=>
      obtain ⟨i,k⟩:=p;obtain ⟨d,y,_,_,_,hy,_⟩:=jt W he;rw [he] at hr;simp only [Except.ok.injEq,AF.rA hy] at hr;subst hr;exact ⟨(W.files y (ai hy)).2.1,(W.files y (ai hy)).2.2⟩
   obtain ⟨hbl,h8⟩:=hbs;refine ⟨_,_,rfl,?_⟩;rw [show ((0:Int)!=0)=false from rfl,aa];have hsz:(bT bs).size=bs.length:=by rw [← bd,bM h8]
   refine (AL (s:=bT bs) (p:=0) H (au _) (by omega)).mono ?_;rintro v h2 ⟨rfl,H2⟩;rw [bM h8,drop_zero];have hf:=Frame.uE h8;have hB:B8 (Frame.fJ bs).1:=by
    unfold Frame.fJ;split
    · exact fun n hn=>by cases hn
    · split
      · exact fun n hn=>by cases hn
      · exact (h8.drop 8).take _
   have hl1:(Frame.fJ bs).1.length≤bs.length:=by
    unfold Frame.fJ;split
    · exact au _
    · split
      · exact au _
      · rw [aq,length_drop]; omega
   refine ⟨_,_,rfl,?_⟩;simp only [];rw [hf]
   cases hr2:(Frame.fJ bs).2 with
   | false=>
     rw [aA,ab];simp only [Bool.false_eq_true,if_false];exact ⟨rfl,H2⟩
   | true=>
     rw [az,aa];simp only [if_true];have hz:(bT (Frame.fJ bs).1).size=(Frame.fJ bs).1.length:=by rw [← bd,bM hB]
     rw [hz,hsz,IntWalk.i64_in _ (by omega)];by_cases hl:(Frame.fJ bs).1.length+8=bs.length
     · rw [al hl,show ((((Frame.fJ bs).1.length:Int)+8)!=(bs.length:Int))=false by rw [bne_eq_false_iff_eq]; omega,aa];exact ⟨rfl,H2⟩
     · rw [ak hl,show ((((Frame.fJ bs).1.length:Int)+8)!=(bs.length:Int))=true by rw [bne_iff_ne]; omega,ab];exact ⟨rfl,H2⟩
theorem AM (W:A.WF) (hs:A.steps+10000<1099511627776) (hm:A.files.length+10000<1099511627776) (H:aD (bp m A::F) h) :
  aC prog 115 [aI m,.string dir] h fun v h'=>v=Cm (A.clean dir).2∧(∀ e,(A.clean dir).2=.error e→e≠0)∧aD (bp m (A.clean dir).1::F) h':=by
 apply F1.ap
 unfold Lv
 refine (kD W H).mono ?_
 rintro v h1 (⟨ks,a,c,hli,rfl,H1⟩ | ⟨e,hli,e0,rfl,H1⟩)
 · refine ⟨a,ks.length,c,0,rfl,?_⟩;rw [show ((0:Int)!=0)=false from rfl,aa];have hf:=AF.lH W hli;refine ⟨fun st hh=>∃ (i n:Nat) (B:AF.FS),st=((n:Int),(i:Int))∧i≤ks.length∧n≤i∧AF.bW dir (ks.take i) A 0=(B,.ok n)∧aD (aL 9 1 a ks.length c (ks.map Value.string)::bp m B::F) hh,
    fun st _=>((ks.length:Int) - st.2).toNat,⟨0,0,A,rfl,au _,av _,rfl,H1⟩,?_⟩
   rintro st h2 ⟨i,n,B,rfl,hi,hn,hB,H2⟩;have TB:=AF.iY dir (ks.take i) A 0 W;rw [hB] at TB;obtain ⟨WB,GB⟩:=TB;have gb1:=GB.1;have gb2:=GB.2;rw [aq] at gb1 gb2;simp only [];by_cases hlt:i<ks.length
   · rw [af (show ((i:Int)<(ks.length:Int)) by omega),ab];obtain ⟨s,hsi⟩:∃ s,ks[i]? = some s:=⟨_,ah hlt⟩
     have htk:ks.take (i+1)=ks.take i++[s]:=by rw [ax,hsi]; rfl
     have hgo:AF.bW dir (ks.take (i+1)) A 0=AF.bW dir [s] B n:=by rw [htk,AF.eG,hB]
     have on:∀ (n2:Nat) (B2:AF.FS) hx,n2≤n+1→AF.bW dir (ks.take (i+1)) A 0=(B2,.ok n2)→aD (aL 9 1 a ks.length c (ks.map Value.string)::bp m B2::F) hx→
      (∃ (i_1 n_1:Nat) (B_1:AF.FS),((n2:Int),wrap .i64 ((i:Int)+1))=((n_1:Int),(i_1:Int))∧i_1≤ks.length∧n_1≤i_1∧AF.bW dir (ks.take i_1) A 0=(B_1,.ok n_1)∧aD (aL 9 1 a ks.length c (ks.map Value.string)::bp m B_1::F) hx)∧
       ((ks.length:Int) - wrap .i64 ((i:Int)+1)).toNat<((ks.length:Int) - (i:Int)).toNat:=by
      intro n2 B2 hx hn2 hB2 HX;rw [aK (by omega)];exact ⟨⟨i+1,n2,B2,rfl,by omega,by omega,hB2,HX⟩,by omega⟩
     refine eR (aH H2) rfl hsi fun b2 hc=>gm hc ?_;have skip:AF.kq s=false→AF.bW dir (ks.take (i+1)) A 0=(B,.ok n):=fun ht=>by rw [hgo]; unfold AF.bW; rw [ht,ak (by decide)]; rfl
     by_cases h4:4≤s.size
     · rw [af (show ((s.size:Int)≥4) by omega),ab];refine eR (aH H2) rfl hsi fun b3 hc3=>gm hc3 ?_;refine ⟨by omega,by omega,by omega,?_⟩;have et:cv (s.extract (0:Int).toNat (4:Int).toNat) ⟨#[116,109,112,46]⟩=AF.kq s:=by
        unfold AF.kq;rw [af h4,Bool.true_and,fZ,ff]
        rfl
       simp only [et]
       cases ht:AF.kq s with
       | false=>
         rw [aa];exact on n B h2 (Nat.le_succ _) (skip ht) H2
       | true=>
         rw [ab];refine eR (aH H2) rfl hsi fun b4 hc4=>gm hc4 ?_;refine (oA WB (by omega) (H2.mv 1)).mono ?_;rintro v h3 ⟨rfl,H3⟩;rw [aJ];by_cases e1:(B.remove dir s).2=0
         · rw [iu e1,aa,aK (show n<9223372036854775807 by omega)];refine on (n+1) (B.remove dir s).1 h3 (av _) ?_ (H3.mv 1);rw [hgo];unfold AF.bW;rw [ht,al rfl,al e1]
           rfl
         · rw [bo e1,ab];have hge:AF.bW dir (ks.take (i+1)) A 0=((B.remove dir s).1,.error (B.remove dir s).2):=by
            rw [hgo];unfold AF.bW;rw [ht,al rfl,ak e1]
           have hall:AF.bW dir ks A 0=((B.remove dir s).1,.error (B.remove dir s).2):=by
            have e:ks=ks.take (i+1)++ks.drop (i+1):=(take_append_drop _ _).symm;rw [e,AF.eG,hge]
           have ec:A.clean dir=((B.remove dir s).1,.error (B.remove dir s).2):=by unfold AF.FS.clean; rw [hli]; simp only [hall]
           rw [ec];exact ⟨rfl,fun e he=>by cases he; exact e1,H3.ordT 2 [0]⟩
     · rw [ae (show ¬ ((s.size:Int)≥4) by omega),aa];exact on n B h2 (Nat.le_succ _) (skip (by unfold AF.kq; rw [ae h4,Bool.false_and])) H2
   · rw [ae (show ¬ ((i:Int)<(ks.length:Int)) by omega),aa];rw [ar (by omega)] at hB;by_cases hn0:0<n
     · rw [af (show ((n:Int)>0) by omega),ab];refine (oB WB (by omega) (H2.mv 1)).mono ?_;rintro v h3 ⟨rfl,H3⟩;rw [aJ];by_cases e1:(B.syncDir dir).2=0
       · rw [iu e1,aa];have ec:A.clean dir=((B.syncDir dir).1,.ok n):=by unfold AF.FS.clean; rw [hli]; simp only [hB]; rw [al hn0,al e1]
         rw [ec];exact ⟨rfl,fun e he=>(by cases he),H3.ordT 2 [0]⟩
       · rw [bo e1,ab];have ec:A.clean dir=((B.syncDir dir).1,.error (B.syncDir dir).2):=by unfold AF.FS.clean; rw [hli]; simp only [hB]; rw [al hn0,ak e1]
         rw [ec];exact ⟨rfl,fun e he=>by cases he; exact e1,H3.ordT 2 [0]⟩
     · rw [ae (show ¬ ((n:Int)>0) by omega),aa];have ec:A.clean dir=(B,.ok n):=by unfold AF.FS.clean; rw [hli]; simp only [hB]; rw [ak hn0]
       rw [ec];exact ⟨rfl,fun e he=>(by cases he),H2.drop⟩
 · refine ⟨none,0,0,(e:Int),rfl,?_⟩;rw [bo e0,ab];have ec:A.clean dir=(A,.error e):=by unfold AF.FS.clean; rw [hli]
   rw [ec];exact ⟨rfl,fun e' he=>by cases he; exact e0,H1⟩
end
open Go Go.RowKit Go.ChangeShapes Go.WideShapes Go.ChangeAt
section
variable {m:Nat} {A:AF.FS} {F:List aE} {h:Heap} {dir name b:ByteArray}
def Cu (m:Nat) (r:AF.FS×Except Nat (List ByteArray)) (F:List aE) (v:Value) (h':Heap):Prop:=
 (∃ (ks:List ByteArray) (a:Option Addr) (c:Nat),r.2=.ok ks∧v=.tuple #[.slice a ks.length c,.int .i64 0]∧aD (aL 9 1 a ks.length c (ks.map Value.string)::bp m r.1::F) h')∨
  (∃ e:Nat,r.2=.error e∧e≠0∧v=.tuple #[.slice none 0 0,.int .i64 (e:Int)]∧aD (bp m r.1::F) h')
theorem Bk {Q:Value→Heap→Prop} (W:A.WF) (hs:A.steps+10000<1099511627776) (hm:A.files.length+10000<1099511627776) (H:aD (bp m A::F) h) (hQ:∀ v h',Cu m (A.tidy dir) F v h'→Q v h') :
  aC prog 115 [aI m,.string dir] h fun r4 h_4=>
  ∃ (x6:Int),∃ (x7:Int),r4=.tuple #[.int .i64 x6,.int .i64 x7]∧
  (bif (x7:Int)!=0 then
   Q (.tuple #[.slice none 0 0,.int .i64 x7]) h_4
  else
   aC prog 91 [aI m,.string dir] h_4 fun r5 h_5=>
   ∃ (x8a:Option Addr),∃ (x8l:Nat),∃ (x8c:Nat),∃ (x9:Int),r5=.tuple #[.slice x8a x8l x8c,.int .i64 x9]∧
   Q (.tuple #[.slice x8a x8l x8c,.int .i64 x9]) h_5):=by
 refine (AM W hs hm H).mono ?_
 rintro v h1 ⟨rfl,he,H1⟩
 have W1:=(AF.ry dir W).1
 cases hc:(A.clean dir).2 with
 | error e=>
   have e0:=he e hc;refine ⟨0,(e:Int),rfl,?_⟩;rw [bo e0,ab];have et:A.tidy dir=((A.clean dir).1,.error e):=by
    unfold AF.FS.tidy;have:A.clean dir=((A.clean dir).1,.error e):=by rw [← hc]
    rw [this]
   refine hQ _ _ ?_;rw [et];exact .inr ⟨e,rfl,e0,rfl,H1⟩
 | ok n=>
   refine ⟨(n:Int),0,rfl,?_⟩;rw [show ((0:Int)!=0)=false from rfl,aa];have et:A.tidy dir=((A.clean dir).1,(A.clean dir).1.list dir):=by
    unfold AF.FS.tidy;have:A.clean dir=((A.clean dir).1,.ok n):=by rw [← hc]
    rw [this]
   refine (kD W1 H1).mono ?_;rintro v h2 (⟨ks,a,c,hl,rfl,H2⟩ | ⟨e,hl,e0,rfl,H2⟩)
   · refine ⟨a,ks.length,c,0,rfl,hQ _ _ ?_⟩;rw [et];exact .inl ⟨ks,a,c,hl,rfl,H2⟩
   · refine ⟨none,0,0,(e:Int),rfl,hQ _ _ ?_⟩;rw [et];exact .inr ⟨e,hl,e0,rfl,H2⟩
theorem CS (W:A.WF) (hs:A.steps+20000<1099511627776) (hm:A.files.length+20000<1099511627776) (H:aD (bp m A::F) h) :
  aC prog 54 [aI m,.string dir] h (Cu m (A.prep dir) F):=by
 apply Ii.ap
 unfold MN
 refine (kD W H).mono ?_
 rintro v h1 (⟨ks,a,c,hl,rfl,H1⟩ | ⟨e,hl,e0,rfl,H1⟩)
 · refine ⟨a,ks.length,c,0,rfl,?_⟩;rw [show ((0:Int)==61)=false from rfl,aa];refine Bk W (by omega) (by omega) H1.drop fun v h2 hn=>?_;have ep:A.prep dir=A.tidy dir:=by unfold AF.FS.prep; rw [hl]
   rw [ep];exact hn
 · refine ⟨none,0,0,(e:Int),rfl,?_⟩;by_cases h61:e=61
   · subst h61;rw [show (((61:Nat):Int)==61)=true from rfl,ab];have W2:=W.mkdir dir;have G2:=AF.q8 A dir;have g1:=G2.1;have g2:=G2.2;refine (wM W (by omega) H1).mono ?_;rintro v h2 ⟨rfl,H2⟩;rw [aJ];by_cases he:(A.mkdir dir).2=0
     · rw [iu he,aa];have ep:A.prep dir=(A.mkdir dir).1.tidy dir:=by
        unfold AF.FS.prep;rw [hl];simp only [he,if_true]
       refine Bk W2 (by omega) (by omega) H2 fun v h3 hn=>?_;rw [ep];exact hn
     · rw [bo he,ab];have ep:A.prep dir=((A.mkdir dir).1,.error (A.mkdir dir).2):=by
        unfold AF.FS.prep;rw [hl];simp only [ak he]
       rw [ep];exact .inr ⟨_,rfl,he,rfl,H2⟩
   · have:((e:Int)==61)=false:=by rw [beq_eq_false_iff_ne]; omega
     rw [this,aa];refine Bk W (by omega) (by omega) H1 fun v h2 hn=>?_;have ep:A.prep dir=A.tidy dir:=by
      unfold AF.FS.prep;rw [hl];split
      · rename_i he;cases he;exact absurd rfl h61
      · rfl
     rw [ep];exact hn
end
def xM (P:Program) (fs:Array Field) (i off:Nat):Bool:=
 match fs[i]? with
 | some f=>f.offset==off&&wA P f.type
 | none=>false
def vK (P:Program) (t:TypeId) (k:Nat):Bool:=
 match P.underlying t with
 | some (.struct fs)=>(fs.size==k+1&&P.cellsOf t==k+7)&&((List.range k).all (fun i=>mU P fs i sW)&&xM P fs k k)
 | _=>false
abbrev ox:=List Int×lp
def ox.cells (x:ox):List Value:=x.1.map iv++x.2.cells
structure xX (h:Heap) (k:Nat) (x:ox):Prop where
 len:x.1.length=k
 nums:∀ z∈x.1,-9223372036854775808≤z∧z≤9223372036854775807
 act:ma h x.2
def ld (h:Heap) (a:Option Addr) (k:Nat) (acts:List ox):Prop:=
 ∀ (i:Nat) (x:ox),acts[i]? = some x→xX h k x∧∃ b,a=some b∧∀ (j:Nat) (v:Value),x.cells[j]? = some v→cz h (b.add (i*(k+7)+j))=some v
section
variable {H:Type} {enc:TypeId×Value→H} {P:Program} {w:World} {base:Nat} {spare:Nat→Bool} {held:Bool}
theorem vJ {t:TypeId} {k:Nat} (h:vK P t k=true):P.cellsOf t=k+7:=by
 unfold vK at h
 split at h
 · simp only [aw,beq_iff_eq] at h;exact h.1.2
 · cases h
theorem Ey {fs:Array Field} {i off n:Nat} {cs:List Value} {xs:List (DataW H×List MemPlace)} (hf:xM P fs i off=true) (hx:i<xs.length)
  (hr:∀ (i:Nat) (f:Field),fs[i]? = some f→DataW.trod enc P w base spare held n f.type ((cs.drop f.offset).take (P.cellsOf f.type))=xs[i]?) :
  ∃ v:lp,(cs.drop off).take 7=v.cells∧ma w.heap v:=by
 unfold xM at hf
 cases hi:fs[i]? with
 | none=>rw [hi] at hf; cases hf
 | some f=>
   rw [hi] at hf;simp only [aw,beq_iff_eq] at hf;have:=hr i f hi;rw [hf.1,wz hf.2,ah hx] at this;exact Cq hf.2 this
theorem BJ {t:TypeId} {fuel k:Nat} {cs:List Value} {x:DataW H×List MemPlace} (hA:vK P t k=true) (h:DataW.trod enc P w base spare held fuel t cs=some x):∃ v:ox,cs=v.cells∧xX w.heap k v:=by
 unfold vK at hA
 cases hu:P.underlying t with
 | none=>rw [hu] at hA; cases hA
 | some u=>
   rw [hu] at hA
   cases u with
   | struct fs=>
     simp only [aw,beq_iff_eq] at hA;obtain ⟨⟨hsz,hC⟩,hints,hact⟩:=hA;obtain ⟨xs,n,_,_,hlen,hxl,hr⟩:=DataW.trod_struct hu h;rw [hC] at hlen;rw [hsz] at hxl;obtain ⟨x,hx,hok⟩:=Ey hact (by omega) hr;have each:∀ i,i<k→∃ z:Int,cs[i]? = some (iv z) ∧ -9223372036854775808≤z∧z≤9223372036854775807:=by
      intro i hi;have hf:=(List.all_eq_true.1 hints) i (List.mem_range.2 hi);obtain ⟨t0,u0,y0,e0,d0,r0⟩:=iE hf (by omega) (by omega) hr;rw [n4 d0] at e0;obtain ⟨z0,c0,_,w0⟩:=DataW.trod_int e0 r0;simp only [List.cons.injEq,and_true] at c0;simp only [Lit.wf,aw,decide_eq_true_eq] at w0;exact ⟨z0,by rw [ah (by omega),c0]; rfl,w0.1,w0.2⟩
     obtain ⟨zs,hzl,hz⟩:=lU (P:=fun i (z:Int)=>cs[i]? = some (iv z) ∧ -9223372036854775808≤z∧z≤9223372036854775807) k each;refine ⟨(zs,x),?_,hzl,fun z hm=>?_,hok⟩
     · have h1:cs.take k=zs.map iv:=by
        apply List.ext_getElem?;intro j;rw [getElem?_take,getElem?_map];by_cases hj:j<k
        · rw [al hj];have:=hz j zs[j] (ah (by omega));rw [this.1,ah (by omega)]
          rfl
        · rw [ak hj,getElem?_eq_none (by omega)]
          rfl
       have h2:cs.drop k=x.cells:=by
        rw [← hx,ar (by rw [length_drop]; omega)]
       unfold ox.cells;rw [← h1,← h2,take_append_drop]
     · obtain ⟨j,hj⟩:=getElem?_of_mem hm;exact (hz j z hj).2
   | _=>cases hA
theorem xu {r:Reach} {b0 k:Nat} {t e:TypeId} {v:Value} {d:DataW H} {p:List MemPlace}
  (ht:P.underlying t=some (.slice e)) (hA:vK P e k=true) (hv:Value.okWide P w r b0 t v) (h:DataW.Trod enc P w base spare held t v d p) :
  ∃ (a:Option Addr) (l c:Nat) (acts:List ox),v=.slice a l c∧acts.length=l∧l≤c∧c≤maxLen∧ld w.heap a k acts:=by
 obtain ⟨a,l,c,rfl⟩:=okWide_slice ht hv
 obtain ⟨fuel,hf⟩:=h
 rcases Go.Deep.open_slice ht hf with ⟨hcs,_⟩ | ⟨a',len,cap,m,n,D,Pl,hcs,hb,hl,hm,hmm,_,hel⟩
 · simp [Value.cells] at hcs;obtain ⟨rfl,rfl,rfl⟩:=hcs;exact ⟨none,0,0,[],rfl,rfl,av _,au _,fun i x hx=>by simp at hx⟩
 · simp [Value.cells] at hcs;obtain ⟨rfl,rfl,rfl⟩:=hcs;have hC:=vJ hA;rw [hC] at hel;have hlm:l≤m:=by
    rw [hmm];split <;> omega
   obtain ⟨acts,hal,hac⟩:=lU (P:=fun i (x:ox)=>xX w.heap k x∧∀ (j:Nat) (v:Value),x.cells[j]? = some v→cz w.heap (a'.add (i*(k+7)+j))=some v) l fun i hi=>by
    obtain ⟨cs',hc1,hc2⟩:=hel i (by omega);obtain ⟨x,hx,hok⟩:=BJ hA hc2;refine ⟨x,hok,fun j v hj=>?_⟩;obtain ⟨_,_,hcell⟩:=World.cells?_some hc1;have hj7:j<k+7:=by
     have:=(aj.1 hj).1;have hl:=hok.len;have h7:x.2.cells.length=7:=rfl;unfold ox.cells at this;rw [am,an,hl,h7] at this;exact this
    have:=hcell j hj7;rw [hx,hj,dR,dC] at this;exact this
   refine ⟨some a',l,c,acts,rfl,hal,hl,hm,fun i x hi=>?_⟩;obtain ⟨h1,h2⟩:=hac i x hi;exact ⟨h1,a',rfl,h2⟩
end
theorem ld.at {h:Heap} {a:Option Addr} {k:Nat} {acts:List ox} {l i:Nat} {x:ox} {K:Addr→Prop} (H:ld h a k acts) (hl:acts.length=l) (hi:acts[i]? = some x)
  (hK:∀ b,a=some b→(∀ (j:Nat) (v:Value),x.cells[j]? = some v→cz h ((b.add (i*(k+7))).add j)=some v)→K (b.add (i*(k+7)))):aR a l (i:Int) (k+7) K:=by
 obtain ⟨_,b,hb,hc⟩:=H i x hi
 have:=(aj.1 hi).1
 refine ⟨b,hb,by omega,by omega,?_⟩
 rw [Int.toNat_natCast]
 exact hK b hb fun j v hj=>by rw [dC]; exact hc j v hj
theorem ld.old {h h':Heap} {F:List aE} {a:Option Addr} {k:Nat} {acts:List ox} (H:ld h a k acts) (hs:aD (old h::F) h'):ld h' a k acts:=by
 intro i x hi
 obtain ⟨h1,b,hb,hc⟩:=H i x hi
 obtain ⟨ps,hr,h2,h3⟩:=h1.act.picks
 exact ⟨⟨h1.len,h1.nums,⟨h1.act.k,h1.act.n,h1.act.turn,h1.act.dir,h1.act.name,h1.act.b,ps,hr.old hs,h2,h3⟩⟩,b,hb,fun j v hj=>hs.oldCell (hc j v hj)⟩
end Go.Proofs.YtmemjbiijclbdaaGreat
