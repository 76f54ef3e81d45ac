/- What was proved of metalog and code in seat Z and serves other layers: code.Num .. Unpairs,tables of numbers,names of files (printed out of wip/meta by shake.py). -/
import Derived.Test.YtibdiikcigokjaaGreatPyPaX
import Derived.Test.YtibdiikcigokjaaGreatPyMt0
import Derived.Test.YtibdiikcigokjaaGreatPyMt1
import Derived.Test.YtibdiikcigokjaaGreatPyPlA
import Derived.Test.YtibdiikcigokjaaGreatPyPh1
import Derived.Test.YtibdiikcigokjaaGreatPyTs
import Derived.Tactics
import Derived.Tactics2
import Derived.Defers
import Derived.Recover
import Derived.Laws.Pointers
import Derived.TacticsInMore
import Derived.RegionIn
import Derived.RecoverIn
namespace Go.Proofs.YtibdiikcigokjaaGreat
open Go.IntKind (wrap)
open Go.Proofs.Tryz (prog)
open List (append_assoc take_append_drop map_take map_drop drop_zero length_pos_of_mem flatMap_append mem_cons_self)
open Go Go.RowKit
set_option linter.unusedVariables false
set_option linter.unusedSimpArgs false
namespace AF
theorem vQ {n:Int} (h0:0≤n) (h:n≤1099511627776):ff n=n.toNat:=by
 have:n=(n.toNat:Int):=by omega
 rw [this,ma (by omega)]
 omega
def kZ (n:Int):Prop:=0≤n∧n≤1099511627776
theorem E6 {c d:Nat} {m n:Int} (hc:c<256) (hd:d<256) (hm:kZ m) (hn:kZ n) (h:cI c m=cI d n):c=d∧m=n:=by
 unfold cI at h
 rw [vQ hm.1 hm.2,vQ hn.1 hn.2] at h
 have:=Fnm.Iw hc hd (by have:=hm.2; omega) (by have:=hn.2; omega) h
 have h1:=hm.1; have h2:=hn.1
 exact ⟨this.1,by omega⟩
open Frame (cH)
open Fnm (nm)
section
variable {A:FS} {M:AM} {T:ln}
theorem oM {β:Type} [DecidableEq β]:∀ {l m:List β},l.Nodup→(∀ x∈l,x∈m)→l.length≤m.length
 | [],_,_,_=>au _
 | a::l,m,hn,hs=>by
   have hn2:=List.nodup_cons.1 hn;have ha:=hs a (mem_cons_self ..);have:=oM (l:=l) (m:=m.erase a) hn2.2 fun x hx=>(List.mem_erase_of_ne fun e=>hn2.1 (by rw [← e]; exact hx)).2 (hs x (aB _ hx));rw [List.length_erase_of_mem ha] at this;have:0<m.length:=length_pos_of_mem ha;rw [ao];omega
end
end AF
open Go Go.RowKit Go.MapKept
open AF (AM)
section
variable {F:List aG} {h:Heap} {b fsb:Nat} {M:AM}
theorem EL:prog.underlying 35=some (.slice 5):=by kernel_rfl
theorem vr:fF prog 35=true:=by kernel_rfl
theorem pF:gQ prog 5 1=true:=by kernel_rfl
end
open AF (AM cI fY)
open Hex (cE)
namespace AF
end AF
section
variable {α:Type}
theorem zj {h:Heap} {b x:Nat} {e:TypeId} {fr:Nat×Nat} {K:Option Addr→Prop} (hb:h[b]? = some (.cells #[aJ x] e fr)) (hK:K (some ⟨x,0,none⟩)):Ld h ⟨b,0,none⟩ fun v=>DP v K:=fW hb rfl ⟨_,rfl,hK⟩
theorem Lp {h:Heap} {b:Nat} {e:TypeId} {fr:Nat×Nat} {k:IntKind} {x:Int} {K:Int→Prop} (hb:h[b]? = some (.cells #[.int k x] e fr)) (hK:K x):Ld h ⟨b,0,none⟩ fun v=>DI k v K:=fW hb rfl ⟨_,rfl,hK⟩
theorem Kr {h:Heap} {b:Nat} {e:TypeId} {fr:Nat×Nat} {a:Option Addr} {l m:Nat} {K:Option Addr→Nat→Nat→Prop} (hb:h[b]? = some (.cells #[.slice a l m] e fr)) (hK:K a l m):Ld h ⟨b,0,none⟩ fun v=>aX v K:=fW hb rfl (by show aX (.slice a l m) K; rw [aF]; exact hK)
end
set_option maxRecDepth 20000 in
theorem EY (m:Nat):bq .or .u8 (wrap .u8 (m:Int)) 128=((m%128+128:Nat):Int):=by
 rw [d9]
 have h:∀ x:Fin 256,bq .or .u8 (x.val:Int) 128=((x.val%128+128:Nat):Int):=by decide
 have:=h ⟨m%256,Nat.mod_lt _ (by decide)⟩
 rw [this]
 have e:m%256%128=m%128:=Nat.mod_mod_of_dvd _ (by decide)
 simp only [e]
section
variable {F:List aG} {h:Heap}
theorem pe {n:Nat} (hn:n<18446744073709551616) (H:aD F h):aC prog 203 [.int .u64 (n:Int)] h fun v h'=>∃ (a:Option Addr) (c:Nat),v=.slice a (fi n).length c∧aD (aL 5 1 a (fi n).length c ((fi n).map nv)::F) h':=by
 apply Gl.ap
 unfold L2
 refine ⟨fun (s:Int×Sl) h2=>∃ (m:Nat) (pre:List Nat),s.1=(m:Int)∧m<18446744073709551616∧pre++fi m=fi n∧s.2.l=pre.length∧pre.length<64∧(m<2^(64 - pre.length))∧aD (aL 5 1 s.2.a s.2.l s.2.c (pre.map nv)::F) h2,
  fun s _=>s.1.toNat,⟨n,[],rfl,hn,rfl,rfl,by decide,by simpa using hn,bG 5 1 H⟩,?_⟩
 rintro ⟨s1,⟨sa,sl,sc⟩⟩ h2 ⟨m,pre,rfl,hm,hp,rfl,hl,hm2,H2⟩
 simp only at H2 ⊢
 by_cases h128:m<128
 · rw [ae (show ¬ ((m:Int)≥128) by omega),aa];rw [eQ h128] at hp;refine aQ H2 fun b1 h3 H3=>?_;have e:wrap .u8 (m:Int)=((m:Nat):Int):=by rw [d9,Nat.mod_eq_of_lt (by omega)]
   rw [e] at H3;refine oX EL vr pF (H3.mv 1) (rz (ys:=[m]) (lm H3 rfl) rfl) (by omega) fun a' c' h4 _ H4=>?_;rw [aF];rw [hp] at H4;have hlen:pre.length+1=(fi n).length:=by rw [← hp]; simp
   rw [hlen] at H4 ⊢;exact ⟨a',c',rfl,(H4.mv 1).drop⟩
 · rw [af (show ((m:Int)≥128) by omega),ab];rw [nK h128] at hp;refine aQ H2 fun b1 h3 H3=>?_;rw [EY] at H3;refine oX EL vr pF (H3.mv 1) (rz (ys:=[m%128+128]) (lm H3 rfl) rfl) (by omega) fun a' c' h4 _ H4=>?_;rw [aF];refine ⟨by decide,?_⟩;have e:jK .u64 (m:Int) 7=((m / 128:Nat):Int):=io .u64 m 7 (by decide);have hlt:pre.length+1<64:=by
    rcases Nat.lt_or_ge (pre.length+1) 64 with h | h
    · exact h
    · have:2^(64 - pre.length)≤2^1:=Nat.pow_le_pow_right (by decide) (by omega);omega
   refine ⟨⟨m / 128,pre++[m%128+128],e,by omega,?_,by simp,by simpa using hlt,?_,(H4.mv 1).drop⟩,?_⟩
   · rw [append_assoc];exact hp
   · have h1:2^(64 - pre.length)=2^(64 - (pre.length+1))*2:=by
      rw [← Nat.pow_succ];congr 1;omega
     have:m / 128<2^(64 - (pre.length+1)):=by
      rw [Nat.div_lt_iff_lt_mul (by decide)];omega
     simpa using this
   · show (jK .u64 (m:Int) 7).toNat<((m:Int)).toNat;rw [e];omega
theorem tD {s:ByteArray} (hs:s.size≤1099511627776) (H:aD F h):aC prog 164 [.string s] h fun v h'=>∃ (a:Option Addr) (c:Nat),v=.slice a (cT (sb s)).length c∧aD (aL 5 1 a (cT (sb s)).length c ((cT (sb s)).map nv)::F) h':=by
 apply GE.ap
 unfold Mg
 have e:wrap .u64 ((s.size:Nat):Int)=((s.size:Nat):Int):=IntWalk.u64_in _ (by omega)
 rw [e]
 refine (pe (n:=s.size) (by omega) H).mono ?_
 rintro v h1 ⟨a,c,rfl,H1⟩
 rw [aF]
 have hl:=dk 6 s.size (by omega)
 refine oX EL (by kernel_rfl) pF H1 (Im s) (by omega) fun a' c' h2 _ H2=>?_
 rw [aF]
 have e2:cT (sb s)=fi s.size++sb s:=by unfold cT; rw [aW]
 have e3:(fi s.size).length+s.size=(cT (sb s)).length:=by rw [e2,am,aW]
 rw [← e2,e3] at H2
 rw [e3]
 exact ⟨a',c',rfl,H2⟩
theorem tE {k x:ByteArray} (hk:k.size≤1000000000) (hx:x.size≤1000000000) (H:aD F h):aC prog 163 [.agg #[.string k,.string x]] h fun v h'=>∃ (a:Option Addr) (c:Nat),v=.slice a (fO (sb k,sb x)).length c∧aD (aL 5 1 a (fO (sb k,sb x)).length c ((fO (sb k,sb x)).map nv)::F) h':=by
 apply GF.ap
 unfold Mh
 refine aQ H fun b0 h1 H1=>?_
 refine bu (x:=k) H1 rfl ?_
 refine bu (x:=x) H1 rfl ?_
 refine (tD (by omega) H1).mono ?_
 rintro v h2 ⟨a,c,rfl,H2⟩
 rw [aF]
 refine ⟨rfl,bu (x:=x) (H2.mv 1) rfl rfl,?_⟩
 refine (tD (by omega) H2).mono ?_
 rintro v h3 ⟨a2,c2,rfl,H3⟩
 rw [aF]
 have l1:(cT (sb k)).length≤2000000000:=by
  unfold cT;have:=dk 6 (sb k).length (by rw [aW]; omega);rw [am,aW] at *;omega
 have l2:(cT (sb x)).length≤2000000000:=by
  unfold cT;have:=dk 6 (sb x).length (by rw [aW]; omega);rw [am,aW] at *;omega
 refine oX EL vr pF (H3.mv 1) (rz (aI H3) rfl) (by omega) fun a' c' h4 _ H4=>?_
 rw [aF]
 have e3:(cT (sb k)).length+(cT (sb x)).length=(fO (sb k,sb x)).length:=by unfold fO; rw [am]
 rw [e3] at H4 ⊢
 exact ⟨a',c',rfl,(H4.ordT 3 [0])⟩
def pairC (p:ByteArray×ByteArray):List Value:=[.string p.1,.string p.2]
theorem bX (p:ByteArray×ByteArray):(pairC p).length=2:=rfl
def bj (ps:List (ByteArray×ByteArray)):List Nat:=qB (ps.map fun p=>(sb p.1,sb p.2))
def gg (n:Nat) (ps:List (ByteArray×ByteArray)):List Nat:=fi n++ps.flatMap fun p=>fO (sb p.1,sb p.2)
theorem jf (ps:List (ByteArray×ByteArray)):gg ps.length ps=bj ps:=by
 unfold gg bj qB
 rw [an,List.flatMap_map]
theorem ug (n:Nat) (ps:List (ByteArray×ByteArray)) (i:Nat):(gg n (ps.take i)).length≤(gg n ps).length:=by
 unfold gg
 rw [am,am]
 have:(ps.flatMap fun p=>fO (sb p.1,sb p.2))=((ps.take i).flatMap fun p=>fO (sb p.1,sb p.2))++((ps.drop i).flatMap fun p=>fO (sb p.1,sb p.2)):=by
  rw [← flatMap_append,take_append_drop]
 rw [this,am]
 omega
theorem Bg {la:Option Addr} {ll lc:Nat} {ps:List (ByteArray×ByteArray)} (hr:∀ h',aD F h'→dw h' la (ps.flatMap pairC)) (hl:ps.length=ll) (hll:ll<1000000000) (hp:∀ p∈ps,p.1.size≤1000000000∧p.2.size≤1000000000) (hsz:(bj ps).length≤1099511627776) (H:aD F h) :
  aC prog 162 [.slice la ll lc,.func (.func 163) #[] #[]] h fun v h'=>∃ (a:Option Addr) (c:Nat),v=.slice a (bj ps).length c∧aD (aL 5 1 a (bj ps).length c ((bj ps).map nv)::F) h':=by
 apply zw.ap
 unfold J6
 have e:wrap .u64 ((ll:Nat):Int)=((ps.length:Nat):Int):=by rw [hl]; exact IntWalk.u64_in _ (by omega)
 rw [e]
 refine (pe (n:=ps.length) (by omega) H).mono ?_
 rintro v h1 ⟨a,c,rfl,H1⟩
 rw [aF]
 rw [← jf] at hsz
 refine aU.upto ll (fun i (s:Sl×Int) h2=>s.2=(i:Int)∧i≤ll∧s.1.l=(gg ps.length (ps.take i)).length∧aD (aL 5 1 s.1.a s.1.l s.1.c ((gg ps.length (ps.take i)).map nv)::F) h2) (fun s=>ll - s.2.toNat) (fun i s h2 hh=>⟨hh.2.1,by rw [hh.1]; omega⟩)
  ⟨rfl,au _,by simp [gg],by simpa [gg] using H1⟩ ?_ ?_
 · rintro i ⟨⟨sa,sl,sc⟩,s2⟩ h2 again hi ⟨rfl,_,rfl,H2⟩ go;simp only at H2 ⊢;rw [af (show ((i:Int)<(ll:Int)) by omega),ab];obtain ⟨⟨k,x⟩,hx⟩:∃ x,ps[i]? = some x:=⟨_,ah (by omega)⟩
   have hkx:k.size≤1000000000∧x.size≤1000000000:=hp _ (ai hx);refine ce (f:=pairC) (sz:=2) (x:=(k,x)) bX (by decide) (hr _ H2.drop) hl hx fun b hb hc=>?_;refine ⟨.string k,hc 0 _ rfl,.string x,hc 1 _ rfl,k,x,rfl,?_⟩;refine aQ H2 fun b1 h3 H3=>?_;simp only [aS];refine dO H3 (by decide) (bP 2 0 (by decide)) fun h4 H4=>?_;refine dO (i:=1) H4 (by simp) (bP 2 1 (by decide)) fun h5 H5=>?_;have H6:aD (pt b1 (.cells #[.string k,.string x] 50 (0,0))::aL 5 1 sa (gg ps.length (ps.take i)).length sc ((gg ps.length (ps.take i)).map nv)::F) h5:=H5;refine ⟨.string k,by rw [bD H6.get]; rfl,?_⟩;refine ⟨.string x,bQ (i:=1) H6 rfl,k,x,rfl,?_⟩;refine dK ?_;refine (tE hkx.1 hkx.2 H6).mono ?_;rintro v h6 ⟨a2,c2,rfl,H7⟩;rw [aF];have hpre:gg ps.length (ps.take (i+1))=gg ps.length (ps.take i)++fO (sb k,sb x):=by
    rw [ax,hx];unfold gg;rw [flatMap_append,← append_assoc];simp
   have hle:=ug ps.length ps (i+1);rw [hpre,am] at hle;refine oX EL vr pF (H7.mv 2) (rz (aI H7) rfl) (by omega) fun a' c' h8 _ H8=>?_;rw [aF,aH (by omega)];refine go _ _ ⟨rfl,by omega,?_,?_⟩
   · rw [hpre,am]
   · rw [hpre];exact (H8.mv 1).drop.mv 1 |>.drop
 · rintro ⟨⟨sa,sl,sc⟩,s2⟩ h2 again ⟨rfl,_,rfl,H2⟩;simp only at H2 ⊢;rw [ae (by omega),aa];rw [ar (by omega),jf] at H2 ⊢;exact ⟨sa,sc,rfl,H2⟩
theorem Bz {la:Option Addr} {ll lc:Nat} {ps:List (ByteArray×ByteArray)} (hr:∀ h',aD F h'→dw h' la (ps.flatMap pairC)) (hl:ps.length=ll) (hll:ll<1000000000) (hp:∀ p∈ps,p.1.size≤1000000000∧p.2.size≤1000000000) (hsz:(bj ps).length≤1099511627776) (H:aD F h) :
  aC prog 113 [.slice la ll lc] h fun v h'=>(16777216<(bj ps).length∧v=.tuple #[.slice none 0 0,.int .i64 42]∧aD F h')∨
   ((bj ps).length≤16777216∧∃ (a:Option Addr) (c:Nat),v=.tuple #[.slice a (bj ps).length c,.int .i64 0]∧aD (aL 5 1 a (bj ps).length c ((bj ps).map nv)::F) h'):=by
 apply zB.ap
 unfold Kj
 refine (Bg hr hl hll hp hsz H).mono ?_
 rintro v h1 ⟨a,c,rfl,H1⟩
 rw [aF]
 apply zx.ap
 unfold J7
 by_cases hb:16777216<(bj ps).length
 · rw [af (show (((bj ps).length:Int)>16777216) by omega),ab];exact ⟨none,0,0,42,rfl,.inl ⟨hb,rfl,H1.drop⟩⟩
 · rw [ae (show ¬ (((bj ps).length:Int)>16777216) by omega),aa];exact ⟨a,_,c,0,rfl,.inr ⟨by omega,a,c,rfl,H1⟩⟩
end
namespace AF
open Frame (cH)
end AF
open AF (AM cI MT)
theorem oT:kH prog 50 2 32=true:=by kernel_rfl
theorem zI:prog.underlying 41=some (.slice 50):=by kernel_rfl
theorem ox:fF prog 41=true:=by kernel_rfl
namespace AF
open Frame (cH)
open Hex (cE)
end AF
open AF (AM cI MT kZ)
theorem Fd (a b:Option Addr) (w:World):CallsDIn Fence.wide 0 prog 197 #[.pointer a,.pointer b] .returning w fun e u' w'=>e=.returned (.tuple #[])∧u'=.returning∧w'=w:=by
 refine callsDIn_of_wpSIn Tryz.func197 rfl trivial fun c₀ cs hu=>?_
 apply wpSIn_seq
 apply wpSIn_region
 simp [wpOpsSIn,go_sem,recoverD,hu,Exit.thenS]
 apply wpSIn_seq
 apply wpSIn_region
 simp [wpOpsSIn,go_sem,Exit.thenS]
 refine wpSIn_cond (t:=false) (by simp [Act.eval,Array.replicate]) ?_
 simp only [Bool.false_eq_true,if_false]
 refine wpSIn_of_wpIn rfl (wpIn_skip ?_)
 cases c₀
 simp_all [bodyPostS,results]
theorem A6 {a b:Option Addr} {h:Heap} {K:Heap→Prop} (H:K h):jQ prog 197 [.pointer a,.pointer b] h K:=by
 refine ⟨by kernel_rfl,fun w hw=>?_⟩
 refine (Fd a b w).mono ?_
 rintro e u' w' ⟨rfl,rfl,rfl⟩
 exact ⟨⟨_,rfl⟩,rfl,by rw [hw]; exact H,⟨rfl,rfl,rfl⟩⟩
theorem Nb {a b:Nat} (ha:a<18446744073709551616) (hb:b<18446744073709551616):bq .or .u64 (a:Int) (b:Int)=((a ||| b:Nat):Int):=by
 unfold bq
 simp only []
 have e:(BitVec.ofInt (IntKind.u64).bits (a:Int) ||| BitVec.ofInt (IntKind.u64).bits (b:Int)).toNat=a ||| b:=by
  rw [BitVec.ofInt_natCast,BitVec.ofInt_natCast,BitVec.toNat_or,BitVec.toNat_ofNat,BitVec.toNat_ofNat,Nat.mod_eq_of_lt (show a<2^IntKind.u64.bits from ha),Nat.mod_eq_of_lt (show b<2^IntKind.u64.bits from hb)]
 rw [e]
 have:a ||| b<2^64:=Nat.or_lt_two_pow ha hb
 rw [IntWalk.u64_in _ (by omega)]
theorem Is {i a d:Nat} (ha:a<2^i):a ||| d*2^i=a+d*2^i:=by
 rw [Nat.or_comm,Nat.mul_comm,← Nat.two_pow_add_eq_or_of_lt ha,Nat.add_comm]
theorem aU.by {S:Type} {F:(S→Heap→Prop)→S→Heap→Prop} {s0:S} {h0:Heap} (I:S→Heap→Prop) (μ:S→Nat) (start:I s0 h0)
  (step:∀ s h again,I s h→(∀ s' h',I s' h'→μ s'<μ s→again s' h')→F again s h):aU F s0 h0:=
 ⟨I,fun s _=>μ s,start,fun s h hi=>step s h _ hi fun s' h' h1 h2=>⟨h1,h2⟩⟩
set_option maxRecDepth 20000 in
theorem IS {c:Nat} (hc:c<256):bq .and .u8 (c:Int) 127=((c%128:Nat):Int):=by
 have h:∀ x:Fin 256,bq .and .u8 (x.val:Int) 127=((x.val%128:Nat):Int):=by decide
 exact h ⟨c,hc⟩
theorem Ht {d i:Nat} (hi:i≤64) (h:d*2^i<18446744073709551616):ft .u64 (d:Int) (i:Int)=((d*2^i:Nat):Int):=by
 unfold ft
 rw [Int.toNat_natCast,show min i IntKind.u64.bits=i from Nat.min_eq_left hi]
 have e:(d:Int)*2^i=((d*2^i:Nat):Int):=by
  rw [Int.natCast_mul,Int.natCast_pow]
  rfl
 rw [e]
 exact IntWalk.u64_in _ (by omega)
section
variable {F:List aG} {h:Heap}
def dU (rb:Nat) (xs:List Nat):aG:=pS fun q:Option Addr×Nat=>dh [mC (xs.length≤q.2∧xs.length≤1099511627776),pt rb (.cells #[.slice q.1 xs.length q.2] 271 (0,0)),qr (fun h=>dw h q.1 (xs.map nv))]
theorem gM {rb:Nat} {xs:List Nat} (H:aD (dU rb xs::F) h):∃ a c,xs.length≤c∧xs.length≤1099511627776∧aD (pt rb (.cells #[.slice a xs.length c] 271 (0,0))::qr (fun h=>dw h a (xs.map nv))::F) h:=by
 obtain ⟨⟨a,c⟩,H2⟩:=bw.1 H
 obtain ⟨⟨h1,h2⟩,H3⟩:=cC.1 H2.open
 exact ⟨a,c,h1,h2,H3⟩
theorem ky {rb c:Nat} {a:Option Addr} {xs:List Nat} (h1:xs.length≤c) (h2:xs.length≤1099511627776) (H:aD (pt rb (.cells #[.slice a xs.length c] 271 (0,0))::qr (fun h=>dw h a (xs.map nv))::F) h):aD (dU rb xs::F) h:=
 bw.2 ⟨(a,c),aD.shut (m:=[_,_,_]) (cC.2 ⟨⟨h1,h2⟩,H⟩)⟩
theorem CL (p t:List Nat):(p++t).drop p.length=t:=by simp
theorem AZ {rb:Nat} {w rest:List Nat} (H:aD (dU rb (w++rest)::F) h) :
  aC prog 199 [aJ rb,.int .u64 (w.length:Int)] h fun v h'=>∃ a c,v=.slice a w.length c∧aD (qr (fun h=>dw h a (w.map nv))::dU rb rest::F) h':=by
 apply Gp.ap
 unfold L4
 obtain ⟨a,c,hc,hl,H2⟩:=gM H
 have hlen:(w++rest).length=w.length+rest.length:=am
 rw [aY]
 refine bJ H2 rfl ?_
 rw [IntWalk.u64_in _ (by omega),ae (show ¬ ((w.length:Int)>((w++rest).length:Int)) by omega),aa,aY]
 refine bJ H2 rfl ?_
 refine gn (lo:=0) (hi:=w.length) (mx:=c) (au _) (by omega) (av _) ?_
 rw [aY]
 refine bJ H2 rfl ?_
 refine gn (lo:=w.length) (hi:=(w++rest).length) (mx:=c) (by omega) hc (av _) ?_
 rw [aY,aS]
 have e:(w++rest).length - w.length=rest.length:=by omega
 rw [e,Nat.sub_zero]
 refine cd H2 (by exact Nat.zero_lt_one) rfl fun h2 H3=>?_
 refine ⟨_,_,rfl,?_⟩
 have H4:=ES (H3.mv 1)
 have H5:=fM (S:=fun h=>dw h (gJ a 0 c 1) (w.map nv)) (fun h hh=>by
  have:=dw.sub hh 0 w.length c (by omega);rw [drop_zero,← map_take,List.take_left'] at this
  · exact this
  · rfl) H4
 have H8:=fM (S:=fun h=>dw h (gJ a w.length c 1) (rest.map nv)) (fun h hh=>by
  have:=dw.sub hh w.length rest.length c (by omega);rw [← map_drop,CL,ar (by rw [an]; exact av _)] at this;exact this) (H5.mv 1)
 exact (ky (a:=gJ a w.length c 1) (c:=c - w.length) (by omega) (by omega) (H8.ordT 3 [2,0,1])).mv 1
end
section
variable {F:List aG} {h:Heap} {b fsb:Nat}
theorem rh {i:Nat} {c:Array Value} {e:TypeId} {fr:Nat×Nat} {x:Nat} {K:Option Nat→Prop} (H:aD (pt b (.cells c e fr)::F) h) (hv:c[i]? = some (.map (some x))) (hK:K (some x)):Ld h ((Addr.mk b 0 none).add i) fun v=>DM v K:=
 eU H hv (by rw [bS]; exact hK)
theorem mu {i:Nat} {c:Array Value} {e:TypeId} {fr:Nat×Nat} {x:Nat} {K:Option Addr→Prop} (H:aD (pt b (.cells c e fr)::F) h) (hv:c[i]? = some (aJ x)) (hK:K (some ⟨x,0,none⟩)):Ld h ((Addr.mk b 0 none).add i) fun v=>DP v K:=
 eU H hv ⟨_,rfl,hK⟩
theorem nt {α:Type} {R:α→Value→Heap→Prop} {b:Nat} {T:List (Int×α)} (H:aD (gu R b T::F) h) (k:Int):∃ es f,dN h (some b) es∧es.size=T.length∧Instr.findNow (.int .i64) (.int .i64 k) es.toList 0=some f∧
  ((f=none∧mZ T k=none)∨∃ j v x,f=some (j,v)∧mZ T k=some x∧R x v h):=by
 obtain ⟨m,H2⟩:=jW H
 obtain ⟨es,clock,hm,hes⟩:=fP H2
 obtain ⟨f,hf,hl,hcase⟩:=hm.find k
 have I:=nB (H2.mv 1)
 refine ⟨es,f,hes,?_,hf,?_⟩
 · rw [hm.size,I.length hm.nodup]
 · rcases I.look k with ⟨h1,h2⟩ | ⟨v,x,h1,h2,h3⟩
   · left;refine ⟨?_,h2⟩;rw [h1] at hl;exact Option.map_eq_none_iff.1 hl
   · right;rw [h1] at hl
     cases f with
     | none=>cases hl
     | some q=>
       obtain ⟨j,u⟩:=q;simp only [Option.map_some,Option.some.injEq] at hl;subst hl;exact ⟨j,u,x,rfl,h2,h3⟩
theorem O7 {h:Heap} {b:Nat} {e:TypeId} {fr:Nat×Nat} {x:Bool} {K:Bool→Prop} (hb:h[b]? = some (.cells #[.bool x] e fr)) (hK:K x):Ld h ⟨b,0,none⟩ fun v=>DB v K:=fW hb rfl ⟨_,rfl,hK⟩
theorem oA {α:Type} {k:Int} {x:α}:∀ {T:List (Int×α)},(∀ p∈T,p.1<k)→eI k x T=T++[(k,x)]
 | [],_=>rfl
 | p::T,h=>by
   have h1:=h p (mem_cons_self ..);unfold eI;rw [ak (by omega),ak (by omega),oA (fun q hq=>h q (aB _ hq))]
   rfl
end
end Go.Proofs.YtibdiikcigokjaaGreat
