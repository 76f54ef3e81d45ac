/- The sum of bytes as plain arithmetic: bits shifted through the polynomial; linear,and no turned word goes unseen. Frames as plain lists of bytes: a frame is told back,what is cut off or turned is none. Sums and frames,in the program of seat r2. -/
import Derived.Test.YtmemjbiijclbdaaGreatMpFwB
import Derived.Test.YtmemjbiijclbdaaGreatMpTb
import Derived.Test.YtmemjbiijclbdaaGreatMpTc
namespace Go.Proofs.YtmemjbiijclbdaaGreat
open Go.IntKind (wrap)
open Go.Proofs.Tryz (prog)
open List (foldl_append mem_of_mem_take getD_eq_getElem?_getD take_left length_drop append_assoc drop_drop take_append_drop map_append map_eq_nil_iff getElem?_map map_take map_drop drop_zero)
namespace Crc
set_option linter.unusedVariables false
set_option linter.unusedSimpArgs false
def GP:Nat:=2197175160
def T (c:Nat):Nat:=(c / 2) ^^^ (if c%2=1 then GP else 0)
def Tn:Nat→Nat→Nat
 | 0,c=>c
 | n+1,c=>Tn n (T c)
def sd (c:Nat) (bs:List Nat):Nat:=bs.foldl (fun c b=>Tn 8 (c ^^^ b)) c
def g7 (sum:Nat) (bs:List Nat):Nat:=4294967295 ^^^ sd (4294967295 ^^^ sum) bs
theorem L9 {c:Nat} (h:c<4294967296):T c<4294967296:=by
 unfold T
 have h1:c / 2<2^32:=by omega
 have h2:(if c%2=1 then GP else 0)<2^32:=by split <;> decide
 exact Nat.xor_lt_two_pow h1 h2
theorem yW:∀ (n:Nat) {c:Nat},c<4294967296→Tn n c<4294967296
 | 0,_,h=>h
 | n+1,_,h=>yW n (L9 h)
theorem mX {a b:Nat} (ha:a<4294967296) (hb:b<4294967296):a ^^^ b<4294967296:=Nat.xor_lt_two_pow (n:=32) ha hb
theorem rB:∀ (bs:List Nat) {c:Nat},c<4294967296→(∀ b∈bs,b<256)→sd c bs<4294967296
 | [],_,h,_=>h
 | b::bs,c,h,hb=>rB bs (c:=Tn 8 (c ^^^ b)) (yW 8 (mX h (by have:=hb b (by simp); omega))) fun x hx=>hb x (by simp [hx])
theorem yX {bs:List Nat} {c:Nat} (h:c<4294967296) (hb:∀ b∈bs,b<256):g7 c bs<4294967296:=
 mX (by decide) (rB bs (mX (by decide) h) hb)
theorem nz (c:Nat) (a b:List Nat):sd c (a++b)=sd (sd c a) b:=foldl_append ..
theorem DZ (a b:Nat):a ^^^ (a ^^^ b)=b:=by rw [← Nat.xor_assoc,Nat.xor_self,Nat.zero_xor]
theorem lX (c:Nat) (a b:List Nat):g7 c (a++b)=g7 (g7 c a) b:=by
 unfold g7
 rw [DZ,nz]
def bytes:Nat→Nat→List Nat
 | 0,_=>[]
 | n+1,w=>w%256::bytes n (w / 256)
end Crc
theorem B8.append {a b:List Nat} (ha:B8 a) (hb:B8 b):B8 (a++b):=fun n h=>(List.mem_append.1 h).elim (ha n) (hb n)
theorem B8.take {a:List Nat} (ha:B8 a) (k:Nat):B8 (a.take k):=fun n h=>ha n (mem_of_mem_take h)
theorem B8.drop {a:List Nat} (ha:B8 a) (k:Nat):B8 (a.drop k):=fun n h=>ha n (List.mem_of_mem_drop h)
theorem B8.getD {l:List Nat} (h:B8 l) (i:Nat):l.getD i 0<256:=by
 rw [getD_eq_getElem?_getD]
 cases he:l[i]? with
 | none=>decide
 | some x=>exact h x (ai he)
namespace Frame
open Crc (sd g7)
set_option linter.unusedVariables false
set_option linter.unusedSimpArgs false
def iP (n:Nat):List Nat:=[n / 16777216%256,n / 65536%256,n / 256%256,n%256]
def cS (l:List Nat):Nat:=l.getD 0 0*16777216+l.getD 1 0*65536+l.getD 2 0*256+l.getD 3 0
theorem iO (n:Nat):B8 (iP n):=by
 intro x hx
 simp only [iP,ay,List.mem_nil_iff,or_false] at hx
 rcases hx with rfl | rfl | rfl | rfl <;> exact Nat.mod_lt _ (by decide)
theorem vh {n:Nat} (h:n<4294967296) (rest:List Nat):cS (iP n++rest)=n:=by
 simp [cS,iP]
 omega
theorem ww {l:List Nat} (h:B8 l) (hl:4≤l.length):iP (cS l)=l.take 4:=by
 match l,hl with
 | a::b::c::d::r,_=>
   have ha:a<256:=h a (by simp);have hb:b<256:=h b (by simp);have hc:c<256:=h c (by simp);have hd:d<256:=h d (by simp);simp [iP,cS];omega
theorem tX {l:List Nat} (h:B8 l):cS l<4294967296:=by
 have:=h.getD 0; have:=h.getD 1; have:=h.getD 2; have:=h.getD 3
 unfold cS
 omega
def dk (x:List Nat):List Nat:=iP x.length++iP (g7 0 (iP x.length++x))++x
theorem eW (x:List Nat):(dk x).length=8+x.length:=by simp [dk,iP]; omega
theorem iz {x:List Nat} (h:B8 x):B8 (dk x):=((iO _).append (iO _)).append h
def de (bs:List Nat):Option (List Nat):=
 if bs.length<8 then none
 else if cS bs>16777208 then none
 else if cS bs>bs.length - 8 then none
 else if cS (bs.drop 4)=g7 (g7 0 (bs.take 4)) ((bs.drop 8).take (cS bs)) then some ((bs.drop 8).take (cS bs)) else none
theorem wh {x:List Nat} (hx:B8 x) (hl:x.length≤16777208) (rest:List Nat):de (dk x++rest)=some x:=by
 have e1:dk x++rest=iP x.length++(iP (g7 0 (iP x.length++x))++(x++rest)):=by simp [dk]
 have hlen:(dk x++rest).length=8+x.length+rest.length:=by rw [am,eW]
 have hv:cS (dk x++rest)=x.length:=by rw [e1]; exact vh (by omega) _
 have hd4:(dk x++rest).drop 4=iP (g7 0 (iP x.length++x))++(x++rest):=by rw [e1]; rfl
 have hd8:(dk x++rest).drop 8=x++rest:=by rw [e1]; rfl
 have ht4:(dk x++rest).take 4=iP x.length:=by rw [e1]; rfl
 have hbody:((dk x++rest).drop 8).take x.length=x:=by rw [hd8]; exact take_left
 unfold de
 rw [hlen,hv,hbody,hd4,ht4,vh (Crc.yX (by decide) ((iO _).append hx)),← Crc.lX,ak (by omega),ak (by omega),ak (by omega),al rfl]
theorem jM {bs x:List Nat} (hb:B8 bs) (h:de bs=some x):bs=dk x++bs.drop (8+x.length)∧x.length≤16777208∧8+x.length≤bs.length∧x=(bs.drop 8).take x.length∧cS bs=x.length∧B8 x:=by
 unfold de at h
 split at h
 · cases h
 · split at h
   · cases h
   · split at h
     · cases h
     · split at h
       · rename_i h1 h2 h3 h4;simp only [Option.some.injEq] at h;have hxl:x.length=cS bs:=by
          rw [← h,aq,length_drop];omega
         have hx8:B8 x:=by rw [← h]; exact (hb.drop 8).take _
         have e4:iP x.length=bs.take 4:=by rw [hxl]; exact ww hb (by omega)
         have e5:iP (g7 0 (iP x.length++x))=(bs.drop 4).take 4:=by
          rw [Crc.lX,e4,← h,← h4];exact ww (hb.drop 4) (by rw [length_drop]; omega)
         refine ⟨?_,by omega,by omega,by rw [hxl]; exact h.symm,hxl.symm,hx8⟩;unfold dk;rw [e5,e4];have hx2:x=(bs.drop 8).take x.length:=by rw [hxl]; exact h.symm
         conv=>rhs; rw [append_assoc]; rhs; lhs; rw [hx2]
         rw [← drop_drop,take_append_drop,append_assoc];have e6:bs.drop 8=(bs.drop 4).drop 4:=by rw [drop_drop]
         rw [e6,take_append_drop,take_append_drop]
       · cases h
def fJ (bs:List Nat):List Nat×Bool:=
 if bs.length<8 then ([],false)
 else if cS bs>bs.length - 8 then ([],false)
 else ((bs.drop 8).take (cS bs),decide (cS bs≤16777208)&&decide (dk ((bs.drop 8).take (cS bs))=bs.take (8+cS bs)))
theorem uE {bs:List Nat} (hb:B8 bs):de bs=if (fJ bs).2 then some (fJ bs).1 else none:=by
 by_cases h1:bs.length<8
 · simp [de,fJ,h1]
 · by_cases h2:cS bs>bs.length - 8
   · simp [de,fJ,h1,h2]
   · by_cases h3:cS bs>16777208
     · have h3':¬ cS bs≤16777208:=by omega
       simp [de,fJ,h1,h2,h3,h3']
     · have h3':cS bs≤16777208:=by omega
       have hbl:((bs.drop 8).take (cS bs)).length=cS bs:=by rw [aq,length_drop]; omega
       cases hf:de bs with
       | some x=>
         obtain ⟨e,hl,hle,hx,hv,_⟩:=jM hb hf;have hx':(bs.drop 8).take (cS bs)=x:=by rw [hv]; exact hx.symm
         have hp:dk x=bs.take (8+cS bs):=by
          rw [hv,e,List.take_append_of_le_length (by rw [eW]; omega),ar (by rw [eW]; omega)]
         simp [fJ,h1,h2,h3',hx',hp]
       | none=>
         have hn:¬ dk ((bs.drop 8).take (cS bs))=bs.take (8+cS bs):=fun hp=>by
          have e:bs=dk ((bs.drop 8).take (cS bs))++bs.drop (8+cS bs):=by rw [hp,take_append_drop]
          have:=wh ((hb.drop 8).take (cS bs)) (by omega) (bs.drop (8+cS bs));rw [← e,hf] at this;cases this
         simp [fJ,h1,h2,h3',hn]
end Frame
open Go Go.RowKit
set_option linter.unusedVariables false
set_option linter.unusedSimpArgs false
open Crc (T Tn sd g7)
theorem Gl (bs:List UInt8):∀ b∈nb bs,b<256:=fun b h=>by
 obtain ⟨u,_,rfl⟩:=List.mem_map.1 h
 exact u.toNat_lt
theorem zH (a b:List UInt8):nb (a++b)=nb a++nb b:=map_append
theorem Ad (c:Nat) (ns:List Nat) (i u:Nat) (hi:ns[i]? = some u):sd c (ns.take (i+1))=Tn 8 (sd c (ns.take i) ^^^ u):=by
 have:ns.take (i+1)=ns.take i++[u]:=by
  rw [ax,hi]
  rfl
 rw [this,Crc.nz]
 rfl
theorem Cr (c:Nat) (bs:List UInt8) (i:Nat) (u:UInt8) (hi:bs[i]? = some u):sd c (nb (bs.take (i+1)))=Tn 8 (sd c (nb (bs.take i)) ^^^ u.toNat):=by
 have hlt:=(aj.1 hi).1
 have:bs.take (i+1)=bs.take i++[u]:=by
  rw [ax,hi]
  rfl
 rw [this,zH,Crc.nz]
 rfl
theorem uO:∀ (j c:Nat),Tn (j+1) c=T (Tn j c)
 | 0,c=>rfl
 | j+1,c=>by
   show Tn (j+1) (T c)=T (Tn j (T c));exact uO j (T c)
theorem GH {c:Nat} (h:c<4294967296) :
  bq .xor .u32 (lu .u32 (c:Int) 1) (bq .and .u32 2197175160 (wrap .u32 (0 - bq .and .u32 (c:Int) 1)))=((T c:Nat):Int):=by
 have e1:bq .and .u32 (c:Int) 1=((c%2:Nat):Int):=by
  have:=Kf h (b:=1) (by decide);rw [Nat.and_one_is_mod] at this;exact this
 have e2:lu .u32 (c:Int) 1=((c / 2:Nat):Int):=je .u32 c 1 (by decide)
 have hd:c / 2<4294967296:=by omega
 rw [e1,e2]
 unfold Crc.T
 by_cases ho:c%2=1
 · rw [ho,al rfl];have e3:wrap .u32 (0 - ((1:Nat):Int))=((4294967295:Nat):Int):=by decide
   have e4:bq .and .u32 2197175160 ((4294967295:Nat):Int)=((Crc.GP:Nat):Int):=by decide
   rw [e3,e4];exact ve hd (by decide)
 · have h0:c%2=0:=by omega
   rw [h0,ak (by decide)];have e3:wrap .u32 (0 - ((0:Nat):Int))=((0:Nat):Int):=by decide
   have e4:bq .and .u32 2197175160 ((0:Nat):Int)=((0:Nat):Int):=by decide
   rw [e3,e4];exact ve hd (by decide)
theorem z8 {c u:Nat} (h:c<4294967296) (hu:u<256):bq .xor .u32 (c:Int) (wrap .u32 (u:Int))=((c ^^^ u:Nat):Int):=by
 rw [IntWalk.u32_in _ (by omega)]
 exact ve h (by omega)
theorem Aa {c:Nat} (hc:c<4294967296) {h:Heap} {K:Int→Prop} (hK:K ((Tn 8 c:Nat):Int)) :
  aZ (fun (again1:Int×Int→Heap→Prop) (s1:Int×Int) h_1=>
   (bif decide ((s1.2:Int)<8) then
    0≤(1:Int)∧
    again1 (bq .xor .u32 (lu .u32 s1.1 1) (bq .and .u32 2197175160 (wrap .u32 (0 - (bq .and .u32 s1.1 1)))),wrap .i64 (s1.2+1)) h_1
   else
    h_1=h∧K s1.1)) ((c:Int),0) h:=by
 refine aZ.count 8 (fun j=>(((Tn j c:Nat):Int),(j:Int))) (fun s=>(8 - s.2).toNat) (fun i hi=>by simp) ?_ ?_
 · intro i again hi ha;rw [af (show ((i:Int)<8) by omega)];refine ⟨by decide,?_⟩;rw [GH (Crc.yW i hc),aK (by omega),← uO];exact ha
 · intro again;exact ⟨rfl,hK⟩
theorem aZ.mono {S:Type} {F G:(S→Heap→Prop)→S→Heap→Prop} {s:S} {h:Heap} (H:aZ F s h) (hfg:∀ again s h,F again s h→G again s h):aZ G s h:=
 let ⟨I,μ,h0,hs⟩:=H
 ⟨I,μ,h0,fun s h hi=>hfg _ _ _ (hs s h hi)⟩
theorem pn {sum:Nat} (hs:sum<4294967296) {ns:List Nat} {a:Option Addr} {l c:Nat} {h:Heap} (hr:dF h a (ns.map nv)) (hns:∀ n∈ns,n<256) (hl:ns.length=l) (hb:l<9223372036854775807) :
  aC prog 153 [.int .u32 sum,.slice a l c] h fun v h'=>v=.int .u32 (g7 sum ns:Nat)∧h'=h:=by
 apply FE.ap
 unfold Le
 have hx:bq .xor .u32 4294967295 (sum:Int)=((4294967295 ^^^ sum:Nat):Int):=ve (by decide) hs
 have hlt:∀ i,sd (4294967295 ^^^ sum) (ns.take i)<4294967296:=fun i=>Crc.rB _ (Crc.mX (by decide) hs) fun n hn=>hns n (mem_of_mem_take hn)
 rw [hx]
 refine aZ.count l (fun i=>(((sd (4294967295 ^^^ sum) (ns.take i):Nat):Int),(i:Int))) (fun s=>((l:Int) - s.2).toNat) (fun i hi=>by simp) ?_ ?_
 · intro i again hi ha;rw [af (show ((i:Int)<(l:Int)) by omega)];obtain ⟨u,hu⟩:∃ u,ns[i]? = some u:=⟨_,ah (by omega)⟩
   have hu8:u<256:=hns u (ai hu)
   cases a with
   | none=>
     have:ns.map nv=[]:=hr;rw [map_eq_nil_iff] at this;subst this;simp at hu
   | some a=>
     refine ⟨a,rfl,by show (0:Int)≤(i:Int); omega,by show (i:Int)<(l:Int); omega,nv u,hr _ _ ?_,?_⟩
     · show (ns.map nv)[((i:Int)).toNat*1]? = _;rw [Int.toNat_natCast,Nat.mul_one,getElem?_map,hu]
       rfl
     · show DI .u8 (.int .u8 (u:Int)) _;rw [aJ];simp only [z8 (hlt i) hu8];have hK:again (((Tn 8 (sd (4294967295 ^^^ sum) (ns.take i) ^^^ u):Nat):Int),wrap .i64 ((i:Int)+1)) h:=by
        rw [aK (by omega),← Ad _ _ _ _ hu];exact ha
       refine (Aa (K:=fun c=>again (c,wrap .i64 ((i:Int)+1)) h) (Crc.mX (hlt i) (by omega)) hK).mono ?_;intro ag s1 h1 H
       cases hd:decide (s1.2<8) with
       | true=>rw [hd] at H; exact H
       | false=>rw [hd] at H; obtain ⟨rfl,H⟩:=H; exact H
 · intro again;rw [ae (show ¬ ((l:Int)<(l:Int)) by omega)];refine ⟨?_,rfl⟩;show Value.int .u32 (bq .xor .u32 4294967295 _)=_;rw [show (4294967295:Int)=((4294967295:Nat):Int) from rfl,ve (by decide) (hlt _)];rw [ar (Nat.le_of_eq hl)]
   rfl
theorem tJ {ns:List Nat} {a:Option Addr} {l c:Nat} {h:Heap} (hr:dF h a (ns.map nv)) (hns:∀ n∈ns,n<256) (hl:ns.length=l) (hb:l<9223372036854775807) :
  aC prog 154 [.slice a l c] h fun v h'=>v=.int .u32 (g7 0 ns:Nat)∧h'=h:=by
 apply FD.ap
 unfold Lc
 refine (pn (sum:=0) (by decide) hr hns hl hb).mono ?_
 rintro v h' ⟨rfl,rfl⟩
 simp
open Crc (sd g7)
open Frame (iP cS dk de fJ iO tX eW iz)
theorem uT {x:List Nat} (hx:B8 x) {c:Nat} (hc:c<4294967296):g7 c x<4294967296:=Crc.yX hc hx
theorem LS:prog.underlying 31=some (.slice 5):=by kernel_rfl
theorem t9:prog.underlying 9=some .string:=by kernel_rfl
theorem t5:prog.underlying 5=some (.int .u8):=by kernel_rfl
theorem LT:fS prog 31=true:=by kernel_rfl
theorem i5:ig prog 5 1=true:=by kernel_rfl
theorem tA {ns:List Nat} {a:Option Addr} {l c:Nat} {h:Heap} (hr:dF h a (ns.map nv)) (h8:B8 ns) (hl:ns.length=l) (h4:4≤l) :
  aC prog 181 [.slice a l c] h fun v h'=>v=.int .u32 (cS ns:Nat)∧h'=h:=by
 apply Fh.ap
 unfold KR
 match ns,hl with
 | x0::x1::x2::x3::r,hl=>
   have hm:((x0::x1::x2::x3::r).map nv).length=l:=by rw [an]; exact hl
   refine cf (i:=0) hr hm (v:=nv x0) rfl fun b hb hc=>⟨_,hc,?_⟩
   show DI .u8 (.int .u8 (x0:Int)) _;rw [aJ];refine ⟨by decide,cf (i:=1) hr hm (v:=nv x1) rfl fun b hb hc=>⟨_,hc,?_⟩⟩;show DI .u8 (.int .u8 (x1:Int)) _;rw [aJ];refine ⟨by decide,cf (i:=2) hr hm (v:=nv x2) rfl fun b hb hc=>⟨_,hc,?_⟩⟩;show DI .u8 (.int .u8 (x2:Int)) _;rw [aJ];refine ⟨by decide,cf (i:=3) hr hm (v:=nv x3) rfl fun b hb hc=>⟨_,hc,?_⟩⟩;show DI .u8 (.int .u8 (x3:Int)) _;rw [aJ,Hp (h8 x0 (by simp)) (h8 x1 (by simp)) (h8 x2 (by simp)) (h8 x3 (by simp))];exact ⟨rfl,rfl⟩
 | [],hl=>simp at hl; omega
 | [_],hl=>simp at hl; omega
 | [_,_],hl=>simp at hl; omega
 | [_,_,_],hl=>simp at hl; omega
theorem tK {n:Nat} (hn:n<4294967296) {h:Heap} {F:List aE} (hF:aD F h) :
  aC prog 152 [.int .u32 (n:Int)] h fun v h'=>∃ b,v=.slice (some ⟨b,0,none⟩) 4 4∧aD (aL 5 1 (some ⟨b,0,none⟩) 4 4 ((iP n).map nv)::F) h':=by
 apply FF.ap
 unfold Lf
 refine ⟨by decide,by decide,by decide,aQ hF fun b h' H=>⟨b,rfl,fB H (bO _) (by decide) (by unfold maxLen; decide) rfl ?_⟩⟩
 rw [show (24:Int)=((24:Nat):Int) from rfl,show (16:Int)=((16:Nat):Int) from rfl,show (8:Int)=((8:Nat):Int) from rfl,
  je .u32 n 24 (by decide),je .u32 n 16 (by decide),je .u32 n 8 (by decide),ee,ee,ee,ee]
 rfl
theorem AX {x:List Nat} {a:Option Addr} {l c:Nat} {h:Heap} {F:List aE} (hF:aD F h) (hR:∀ h',aD F h'→dF h' a (x.map nv)) (h8:B8 x) (hl:x.length=l) (hm:l≤16777208) :
  aC prog 101 [.slice a l c] h fun v h'=>∃ b c',v=.tuple #[.slice (some b) (8+l) c',.int .i64 0]∧aD (aL 5 1 (some b) (8+l) c' ((dk x).map nv)::F) h':=by
 apply zf.ap
 unfold Jg
 rw [ae (show ¬ ((l:Int)>16777208) by omega),aa,IntWalk.u32_in (l:Int) (by omega)]
 refine (tK (by omega) hF).mono ?_
 rintro v h1 ⟨b1,rfl,H1⟩
 rw [aF]
 refine (tJ (l:=4) (aH H1) (iO l) rfl (by decide)).mono ?_
 rintro v h2 ⟨rfl,rfl⟩
 rw [aJ]
 have hM1:g7 0 (iP l)<4294967296:=uT (iO l) (by decide)
 refine (pn hM1 (hR _ H1.drop) h8 hl (by omega)).mono ?_
 rintro v h3 ⟨rfl,rfl⟩
 rw [aJ,← Crc.lX]
 have hM2:g7 0 (iP l++x)<4294967296:=uT ((iO l).append h8) (by decide)
 refine (tK hM2 H1).mono ?_
 rintro v h4 ⟨b2,rfl,H4⟩
 rw [aF]
 refine pj LS LT i5 (H4.mv 1) (rT (aH H4) rfl) (by decide) fun a5 c5 h5 _ H5=>?_
 rw [aF]
 refine pj LS LT i5 H5 (rT (hR _ H5.drop.drop) hl) (by omega) fun a6 c6 h6 h60 H6=>?_
 rw [aF]
 cases a6 with
 | none=>have:=h60 rfl; omega
 | some b=>
   refine ⟨b,c6,rfl,?_⟩;have:=(H6.mv 1).drop;subst hl;exact this
def EM (x:List Nat) (h:Heap) (v:Value):Prop:=
 ∃ sa sl sc,v=.tuple #[.slice sa sl sc,.bool (de x).isSome]∧∀ body,de x=some body→body.length=sl∧dF h sa (body.map nv)∧sl≤sc∧sc≤maxLen
theorem AB {x:List Nat} {a:Option Addr} {l c:Nat} {h:Heap} (hr:dF h a (x.map nv)) (h8:B8 x) (hl:x.length=l) (hlc:l≤c) (hc:c≤maxLen) :
  aC prog 143 [.slice a l c] h fun v h'=>EM x h v∧h'=h:=by
 apply FH.ap
 unfold Lh
 have hcm:c≤9223372036854775807:=hc
 by_cases h1:l<8
 · rw [af (show ((l:Int)<8) by omega),ab];have:de x=none:=by unfold de; rw [al (by omega)]
   exact ⟨⟨none,0,0,by rw [this]; rfl,fun b hb=>by rw [this] at hb; cases hb⟩,rfl⟩
 · rw [ae (show ¬ ((l:Int)<8) by omega),aa];refine (tA hr h8 hl (by omega)).mono ?_;rintro v g ⟨rfl,rfl⟩;rw [aJ];by_cases h2:cS x>16777208
   · rw [af (show (((cS x:Nat):Int)>16777208) by omega),ab];have:de x=none:=by unfold de; rw [ak (by omega),al h2]
     exact ⟨⟨none,0,0,by rw [this]; rfl,fun b hb=>by rw [this] at hb; cases hb⟩,rfl⟩
   · rw [ae (show ¬ (((cS x:Nat):Int)>16777208) by omega),aa];have w1:wrap .i64 ((cS x:Nat):Int)=((cS x:Nat):Int):=dt (by omega);have w2:wrap .i64 ((l:Int) - 8)=((l - 8:Nat):Int):=by rw [IntWalk.i64_in _ (by omega)]; omega
     have w3:wrap .i64 (8+((cS x:Nat):Int))=((8+cS x:Nat):Int):=by rw [IntWalk.i64_in _ (by omega)]; omega
     rw [w1,w2,w3];by_cases h3:cS x>l - 8
     · rw [af (show (((cS x:Nat):Int)>((l - 8:Nat):Int)) by omega),ab];have:de x=none:=by unfold de; rw [ak (by omega),ak h2,al (by omega)]
       exact ⟨⟨none,0,0,by rw [this]; rfl,fun b hb=>by rw [this] at hb; cases hb⟩,rfl⟩
     · rw [ae (show ¬ (((cS x:Nat):Int)>((l - 8:Nat):Int)) by omega),aa];have hbl:((x.drop 8).take (cS x)).length=cS x:=by rw [aq,length_drop]; omega
       have hb8:B8 ((x.drop 8).take (cS x)):=(h8.drop 8).take _;have r1:dF g (jB a 8 c 1) (((x.drop 8).take (cS x)).map nv):=by
        rw [map_take,map_drop];exact hr.sub 8 (cS x) c (by omega)
       have r2:dF g (jB a 4 c 1) ((x.drop 4).map nv):=by
        have:=hr.sub 4 (l - 4) c (by omega);rw [← map_drop,← map_take,ar (by rw [length_drop]; omega)] at this;exact this
       have r3:dF g (jB a 0 c 1) ((x.take 4).map nv):=by
        have:=hr.sub 0 4 c (by omega);rw [drop_zero,← map_take] at this;exact this
       refine ir (lo:=8) (by omega) (by omega) (av _) (ir (lo:=4) (by omega) (by omega) (av _) ?_);refine ⟨_,(tA r2 (h8.drop 4) (by rw [length_drop,hl]) (by omega)).mono fun v h' ⟨e1,e2⟩=>⟨e1,e2⟩,?_⟩;rw [aJ];refine ir (lo:=0) (hi:=4) (by omega) (by omega) (av _) ?_;refine ⟨_,(tJ r3 (h8.take 4) (by rw [aq]; omega) (by omega)).mono fun v h' ⟨e1,e2⟩=>⟨e1,e2⟩,?_⟩;rw [aJ];refine ⟨_,(pn (uT (h8.take 4) (by decide)) r1 hb8 (by rw [hbl]; omega) (by omega)).mono fun v h' ⟨e1,e2⟩=>⟨e1,e2⟩,?_⟩;rw [aJ,Kc];refine ⟨⟨jB a 8 c 1,8+cS x - 8,c - 8,?_,?_⟩,rfl⟩
       · congr 3;unfold de;rw [ak (by omega),ak h2,ak (by omega)];by_cases hs:cS (x.drop 4)=g7 (g7 0 (x.take 4)) ((x.drop 8).take (cS x))
         · rw [al hs]; simp [hs]
         · rw [ak hs]; simp [hs]
       · intro body hb;have:body=(x.drop 8).take (cS x):=by
          unfold de at hb;rw [ak (by omega),ak h2,ak (by omega)] at hb;split at hb
          · simp only [Option.some.injEq] at hb; exact hb.symm
          · cases hb
         subst this;exact ⟨by rw [hbl]; omega,r1,by omega,by omega⟩
theorem CA {x:List Nat} {a:Option Addr} {l c:Nat} {h:Heap} {F:List aE} (hF:aD F h) (hR:dF h a (x.map nv)) (h8:B8 x) (hl:x.length=l) (hlc:l≤c) (hc:c≤maxLen) (hm:l≤140737488355328) :
  aC prog 96 [.slice a l c] h fun v h'=>∃ a' l' c' e,v=.tuple #[.slice a' l' c',.int .i64 e]∧
   ((∃ body,de x=some body∧body.length+8=l∧e=0∧l'=body.length∧aD (aL 5 1 a' l' c' (body.map nv)::F) h')∨
    ((∀ body,de x=some body→body.length+8≠l)∧e=52∧l'=0∧aD (aL 5 1 a' l' c' (([]:List Nat).map nv)::F) h')):=by
 apply Hw.ap
 unfold Mo
 refine (AB hR h8 hl hlc hc).mono ?_
 rintro v h1 ⟨⟨sa,sl,sc,rfl,hb⟩,rfl⟩
 refine ⟨sa,sl,sc,_,rfl,?_⟩
 have hcm:c≤9223372036854775807:=hc
 cases hf:de x with
 | none=>
   simp only [Option.isSome_none,aA,ab];exact ⟨none,0,0,52,rfl,.inr ⟨fun b hb=>(by cases hb),rfl,rfl,bE 5 1 hF⟩⟩
 | some body=>
   obtain ⟨hbl,hbr,hbc,hbm⟩:=hb body hf;obtain ⟨_,hb2,hb3,_,_,hb8⟩:=Frame.jM h8 hf;simp only [Option.isSome_some,az,aa];have w1:wrap .i64 ((sl:Int)+8)=((sl+8:Nat):Int):=by rw [IntWalk.i64_in _ (by omega)]; omega
   rw [w1,Co];by_cases he:sl+8=l
   · rw [ae (by simpa using he),aa];refine pj (xs:=[]) LS LT i5 (bE 5 1 hF) (rT hbr hbl) (by omega) fun a' c' h' _ H=>?_;rw [aF];refine ⟨a',0+sl,c',0,rfl,.inl ⟨body,rfl,by omega,rfl,by omega,H⟩⟩
   · rw [af (by simpa using he),ab];exact ⟨none,0,0,52,rfl,.inr ⟨fun b hb=>(by simp only [Option.some.injEq] at hb; subst hb; omega),rfl,rfl,bE 5 1 hF⟩⟩
end Go.Proofs.YtmemjbiijclbdaaGreat
