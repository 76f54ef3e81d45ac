/- The sum of bytes as plain arithmetic: bits shifted through the polynomial; linear,and no turned word goes unseen. Frames as plain lists of bytes: a frame is told back,what is cut off or turned is none. Sums and frames,in the program of seat r2. -/
import Derived.Test.YtdpaiiibndnanaaGreatDoorQpFwB
import Derived.Test.YtdpaiiibndnanaaGreatDoorQpTb
import Derived.Test.YtdpaiiibndnanaaGreatDoorQpTc
namespace Go.Proofs.YtdpaiiibndnanaaGreatDoor
open Go.IntKind (wrap)
open Go.Proofs.Tryz (prog)
open List (mem_of_mem_take mem_of_mem_drop getD_eq_getElem?_getD take_left length_drop append_assoc drop_drop take_append_drop map_append map_eq_nil_iff map_take map_drop drop_zero)
namespace Crc
set_option linter.unusedVariables false
set_option linter.unusedSimpArgs false
def Dq:Nat:=2197175160
def T (c:Nat):Nat:=(c / 2) ^^^ (if c%2=1 then Dq else 0)
def Tn:Nat→Nat→Nat
 | 0,c=>c
 | n+1,c=>Tn n (T c)
def p4 (c:Nat) (bs:List Nat):Nat:=bs.foldl (fun c b=>Tn 8 (c ^^^ b)) c
def gf (sum:Nat) (bs:List Nat):Nat:=4294967295 ^^^ p4 (4294967295 ^^^ sum) bs
theorem Ib {c:Nat} (h:c<4294967296):T c<4294967296:=by
 unfold T
 have h1:c / 2<2^32:=by omega
 have h2:(if c%2=1 then Dq else 0)<2^32:=by split <;> decide
 exact Nat.xor_lt_two_pow h1 h2
theorem vS:∀ (n:Nat) {c:Nat},c<4294967296→Tn n c<4294967296
 | 0,_,h=>h
 | n+1,_,h=>vS n (Ib h)
theorem lx {a b:Nat} (ha:a<4294967296) (hb:b<4294967296):a ^^^ b<4294967296:=Nat.xor_lt_two_pow (n:=32) ha hb
theorem pG:∀ (bs:List Nat) {c:Nat},c<4294967296→(∀ b∈bs,b<256)→p4 c bs<4294967296
 | [],_,h,_=>h
 | b::bs,c,h,hb=>pG bs (c:=Tn 8 (c ^^^ b)) (vS 8 (lx h (by have:=hb b (by simp); omega))) fun x hx=>hb x (by simp [hx])
theorem vT {bs:List Nat} {c:Nat} (h:c<4294967296) (hb:∀ b∈bs,b<256):gf c bs<4294967296:=
 lx (by decide) (pG bs (lx (by decide) h) hb)
theorem lP (c:Nat) (a b:List Nat):p4 c (a++b)=p4 (p4 c a) b:=List.foldl_append ..
theorem Ao (a b:Nat):a ^^^ (a ^^^ b)=b:=by rw [← Nat.xor_assoc,Nat.xor_self,Nat.zero_xor]
theorem kx (c:Nat) (a b:List Nat):gf c (a++b)=gf (gf c a) b:=by
 unfold gf
 rw [Ao,lP]
end Crc
theorem B8.append {a b:List Nat} (ha:B8 a) (hb:B8 b):B8 (a++b):=fun n h=>(List.mem_append.1 h).elim (ha n) (hb n)
theorem B8.take {a:List Nat} (ha:B8 a) (k:Nat):B8 (a.take k):=fun n h=>ha n (mem_of_mem_take h)
theorem B8.drop {a:List Nat} (ha:B8 a) (k:Nat):B8 (a.drop k):=fun n h=>ha n (mem_of_mem_drop h)
theorem B8.getD {l:List Nat} (h:B8 l) (i:Nat):l.getD i 0<256:=by
 rw [getD_eq_getElem?_getD]
 cases he:l[i]? with
 | none=>decide
 | some x=>exact h x (aj he)
namespace Frame
open Crc (p4 gf)
set_option linter.unusedVariables false
set_option linter.unusedSimpArgs false
def g6 (n:Nat):List Nat:=[n / 16777216%256,n / 65536%256,n / 256%256,n%256]
def cC (l:List Nat):Nat:=l.getD 0 0*16777216+l.getD 1 0*65536+l.getD 2 0*256+l.getD 3 0
theorem gK (n:Nat):B8 (g6 n):=by
 intro x hx
 simp only [g6,aA,List.mem_nil_iff,or_false] at hx
 rcases hx with rfl | rfl | rfl | rfl <;> exact Nat.mod_lt _ (by decide)
theorem sJ {n:Nat} (h:n<4294967296) (rest:List Nat):cC (g6 n++rest)=n:=by
 simp [cC,g6]
 omega
theorem tO {l:List Nat} (h:B8 l) (hl:4≤l.length):g6 (cC l)=l.take 4:=by
 match l,hl with
 | a::b::c::d::r,_=>
   have ha:a<256:=h a (by simp);have hb:b<256:=h b (by simp);have hc:c<256:=h c (by simp);have hd:d<256:=h d (by simp);simp [g6,cC];omega
theorem nY {l:List Nat} (h:B8 l):cC l<4294967296:=by
 have:=h.getD 0; have:=h.getD 1; have:=h.getD 2; have:=h.getD 3
 unfold cC
 omega
def bZ (x:List Nat):List Nat:=g6 x.length++g6 (gf 0 (g6 x.length++x))++x
theorem ck (x:List Nat):(bZ x).length=8+x.length:=by simp [bZ,g6]; omega
theorem dz {x:List Nat} (h:B8 x):B8 (bZ x):=((gK _).append (gK _)).append h
def cq (bs:List Nat):Option (List Nat):=
 if bs.length<8 then none
 else if cC bs>16777208 then none
 else if cC bs>bs.length - 8 then none
 else if cC (bs.drop 4)=gf (gf 0 (bs.take 4)) ((bs.drop 8).take (cC bs)) then some ((bs.drop 8).take (cC bs)) else none
theorem tF {x:List Nat} (hx:B8 x) (hl:x.length≤16777208) (rest:List Nat):cq (bZ x++rest)=some x:=by
 have e1:bZ x++rest=g6 x.length++(g6 (gf 0 (g6 x.length++x))++(x++rest)):=by simp [bZ]
 have hlen:(bZ x++rest).length=8+x.length+rest.length:=by rw [ao,ck]
 have hv:cC (bZ x++rest)=x.length:=by rw [e1]; exact sJ (by omega) _
 have hd4:(bZ x++rest).drop 4=g6 (gf 0 (g6 x.length++x))++(x++rest):=by rw [e1]; rfl
 have hd8:(bZ x++rest).drop 8=x++rest:=by rw [e1]; rfl
 have ht4:(bZ x++rest).take 4=g6 x.length:=by rw [e1]; rfl
 have hbody:((bZ x++rest).drop 8).take x.length=x:=by rw [hd8]; exact take_left
 unfold cq
 rw [hlen,hv,hbody,hd4,ht4,sJ (Crc.vT (by decide) ((gK _).append hx)),← Crc.kx,am (by omega),am (by omega),am (by omega),an rfl]
theorem eK {bs x:List Nat} (hb:B8 bs) (h:cq bs=some x):bs=bZ x++bs.drop (8+x.length)∧x.length≤16777208∧8+x.length≤bs.length∧x=(bs.drop 8).take x.length∧cC bs=x.length∧B8 x:=by
 unfold cq at h
 split at h
 · cases h
 · split at h
   · cases h
   · split at h
     · cases h
     · split at h
       · rename_i h1 h2 h3 h4;simp only [Option.some.injEq] at h;have hxl:x.length=cC bs:=by
          rw [← h,au,length_drop];omega
         have hx8:B8 x:=by rw [← h]; exact (hb.drop 8).take _
         have e4:g6 x.length=bs.take 4:=by rw [hxl]; exact tO hb (by omega)
         have e5:g6 (gf 0 (g6 x.length++x))=(bs.drop 4).take 4:=by
          rw [Crc.kx,e4,← h,← h4];exact tO (hb.drop 4) (by rw [length_drop]; omega)
         refine ⟨?_,by omega,by omega,by rw [hxl]; exact h.symm,hxl.symm,hx8⟩;unfold bZ;rw [e5,e4];have hx2:x=(bs.drop 8).take x.length:=by rw [hxl]; exact h.symm
         conv=>rhs; rw [append_assoc]; rhs; lhs; rw [hx2]
         rw [← drop_drop,take_append_drop,append_assoc];have e6:bs.drop 8=(bs.drop 4).drop 4:=by rw [drop_drop]
         rw [e6,take_append_drop,take_append_drop]
       · cases h
def fY (bs:List Nat):List Nat×Bool:=
 if bs.length<8 then ([],false)
 else if cC bs>bs.length - 8 then ([],false)
 else ((bs.drop 8).take (cC bs),decide (cC bs≤16777208)&&decide (bZ ((bs.drop 8).take (cC bs))=bs.take (8+cC bs)))
theorem jR {bs:List Nat} (hb:B8 bs):cq bs=if (fY bs).2 then some (fY bs).1 else none:=by
 by_cases h1:bs.length<8
 · simp [cq,fY,h1]
 · by_cases h2:cC bs>bs.length - 8
   · simp [cq,fY,h1,h2]
   · by_cases h3:cC bs>16777208
     · have h3':¬ cC bs≤16777208:=by omega
       simp [cq,fY,h1,h2,h3,h3']
     · have h3':cC bs≤16777208:=by omega
       have hbl:((bs.drop 8).take (cC bs)).length=cC bs:=by rw [au,length_drop]; omega
       cases hf:cq bs with
       | some x=>
         obtain ⟨e,hl,hle,hx,hv,_⟩:=eK hb hf;have hx':(bs.drop 8).take (cC bs)=x:=by rw [hv]; exact hx.symm
         have hp:bZ x=bs.take (8+cC bs):=by
          rw [hv,e,List.take_append_of_le_length (by rw [ck]; omega),av (by rw [ck]; omega)]
         simp [fY,h1,h2,h3',hx',hp]
       | none=>
         have hn:¬ bZ ((bs.drop 8).take (cC bs))=bs.take (8+cC bs):=fun hp=>by
          have e:bs=bZ ((bs.drop 8).take (cC bs))++bs.drop (8+cC bs):=by rw [hp,take_append_drop]
          have:=tF ((hb.drop 8).take (cC bs)) (by omega) (bs.drop (8+cC bs));rw [← e,hf] at this;cases this
         simp [fY,h1,h2,h3',hn]
def oA:Nat→List Nat→List (List Nat)
 | 0,_=>[]
 | k+1,bs=>match cq bs with
   | none=>[]
   | some x=>x::oA k (bs.drop (8+x.length))
theorem oz:∀ (k k':Nat) (bs:List Nat),bs.length<k→bs.length<k'→oA k bs=oA k' bs
 | 0,_,_,h,_=>by omega
 | _+1,0,_,_,h=>by omega
 | k+1,k'+1,bs,h,h'=>by
   simp only [oA]
   cases hf:cq bs with
   | none=>rfl
   | some x=>
     simp only [];congr 1;have:8≤bs.length:=by
      unfold cq at hf;split at hf
      · cases hf
      · omega
     exact oz k k' _ (by rw [length_drop]; omega) (by rw [length_drop]; omega)
def ci (bs:List Nat):List (List Nat):=oA (bs.length+1) bs
theorem fK (bs:List Nat):ci bs=match cq bs with
  | none=>[]
  | some x=>x::ci (bs.drop (8+x.length)):=by
 show oA (bs.length+1) bs=_
 simp only [oA]
 cases hf:cq bs with
 | none=>rfl
 | some x=>
   simp only [];congr 1;have:8≤bs.length:=by
    unfold cq at hf;split at hf
    · cases hf
    · omega
   exact oz _ _ _ (by rw [length_drop]; omega) (by omega)
def aY (l:List (List Nat)):Nat:=(l.map fun x=>8+x.length).sum
theorem qq:ci []=[]:=by rw [fK]; rfl
end Frame
open Go Go.RowKit
set_option linter.unusedVariables false
set_option linter.unusedSimpArgs false
open Crc (T Tn p4 gf)
theorem CX (bs:List UInt8):∀ b∈nb bs,b<256:=fun b h=>by
 obtain ⟨u,_,rfl⟩:=List.mem_map.1 h
 exact u.toNat_lt
theorem wL (a b:List UInt8):nb (a++b)=nb a++nb b:=map_append
theorem xh (c:Nat) (ns:List Nat) (i u:Nat) (hi:ns[i]? = some u):p4 c (ns.take (i+1))=Tn 8 (p4 c (ns.take i) ^^^ u):=by
 have:ns.take (i+1)=ns.take i++[u]:=by
  rw [az,hi]
  rfl
 rw [this,Crc.lP]
 rfl
theorem zj (c:Nat) (bs:List UInt8) (i:Nat) (u:UInt8) (hi:bs[i]? = some u):p4 c (nb (bs.take (i+1)))=Tn 8 (p4 c (nb (bs.take i)) ^^^ u.toNat):=by
 have hlt:=(ak.1 hi).1
 have:bs.take (i+1)=bs.take i++[u]:=by
  rw [az,hi]
  rfl
 rw [this,wL,Crc.lP]
 rfl
theorem sn:∀ (j c:Nat),Tn (j+1) c=T (Tn j c)
 | 0,c=>rfl
 | j+1,c=>by
   show Tn (j+1) (T c)=T (Tn j (T c));exact sn j (T c)
theorem Di {c:Nat} (h:c<4294967296) :
  cf .xor .u32 (j6 .u32 (c:Int) 1) (cf .and .u32 2197175160 (wrap .u32 (0 - cf .and .u32 (c:Int) 1)))=((T c:Nat):Int):=by
 have e1:cf .and .u32 (c:Int) 1=((c%2:Nat):Int):=by
  have:=FP h (b:=1) (by decide);rw [Nat.and_one_is_mod] at this;exact this
 have e2:j6 .u32 (c:Int) 1=((c / 2:Nat):Int):=iz .u32 c 1 (by decide)
 have hd:c / 2<4294967296:=by omega
 rw [e1,e2]
 unfold Crc.T
 by_cases ho:c%2=1
 · rw [ho,an rfl];have e3:wrap .u32 (0 - ((1:Nat):Int))=((4294967295:Nat):Int):=by decide
   have e4:cf .and .u32 2197175160 ((4294967295:Nat):Int)=((Crc.Dq:Nat):Int):=by decide
   rw [e3,e4];exact sI hd (by decide)
 · have h0:c%2=0:=by omega
   rw [h0,am (by decide)];have e3:wrap .u32 (0 - ((0:Nat):Int))=((0:Nat):Int):=by decide
   have e4:cf .and .u32 2197175160 ((0:Nat):Int)=((0:Nat):Int):=by decide
   rw [e3,e4];exact sI hd (by decide)
theorem w8 {c u:Nat} (h:c<4294967296) (hu:u<256):cf .xor .u32 (c:Int) (wrap .u32 (u:Int))=((c ^^^ u:Nat):Int):=by
 rw [IntWalk.u32_in _ (by omega)]
 exact sI h (by omega)
theorem xd {c:Nat} (hc:c<4294967296) {h:Heap} {K:Int→Prop} (hK:K ((Tn 8 c:Nat):Int)) :
  bf (fun (again1:Int×Int→Heap→Prop) (s1:Int×Int) h_1=>
   (bif decide ((s1.2:Int)<8) then
    0≤(1:Int)∧
    again1 (cf .xor .u32 (j6 .u32 s1.1 1) (cf .and .u32 2197175160 (wrap .u32 (0 - (cf .and .u32 s1.1 1)))),wrap .i64 (s1.2+1)) h_1
   else
    h_1=h∧K s1.1)) ((c:Int),0) h:=by
 refine bf.count 8 (fun j=>(((Tn j c:Nat):Int),(j:Int))) (fun s=>(8 - s.2).toNat) (fun i hi=>by simp) ?_ ?_
 · intro i again hi ha;rw [ah (show ((i:Int)<8) by omega)];refine ⟨by decide,?_⟩;rw [Di (Crc.vS i hc),aN (by omega),← sn];exact ha
 · intro again;exact ⟨rfl,hK⟩
theorem bf.mono {S:Type} {F G:(S→Heap→Prop)→S→Heap→Prop} {s:S} {h:Heap} (H:bf F s h) (hfg:∀ again s h,F again s h→G again s h):bf G s h:=
 let ⟨I,μ,h0,hs⟩:=H
 ⟨I,μ,h0,fun s h hi=>hfg _ _ _ (hs s h hi)⟩
theorem mZ {sum:Nat} (hs:sum<4294967296) {ns:List Nat} {a:Option Addr} {l c:Nat} {h:Heap} (hr:cv h a (ns.map nv)) (hns:∀ n∈ns,n<256) (hl:ns.length=l) (hb:l<9223372036854775807) :
  aE prog 130 [.int .u32 sum,.slice a l c] h fun v h'=>v=.int .u32 (gf sum ns:Nat)∧h'=h:=by
 apply Cv.ap
 unfold Ha
 have hx:cf .xor .u32 4294967295 (sum:Int)=((4294967295 ^^^ sum:Nat):Int):=sI (by decide) hs
 have hlt:∀ i,p4 (4294967295 ^^^ sum) (ns.take i)<4294967296:=fun i=>Crc.pG _ (Crc.lx (by decide) hs) fun n hn=>hns n (mem_of_mem_take hn)
 rw [hx]
 refine bf.count l (fun i=>(((p4 (4294967295 ^^^ sum) (ns.take i):Nat):Int),(i:Int))) (fun s=>((l:Int) - s.2).toNat) (fun i hi=>by simp) ?_ ?_
 · intro i again hi ha;rw [ah (show ((i:Int)<(l:Int)) by omega)];obtain ⟨u,hu⟩:∃ u,ns[i]? = some u:=⟨_,ai (by omega)⟩
   have hu8:u<256:=hns u (aj hu)
   cases a with
   | none=>
     have:ns.map nv=[]:=hr;rw [map_eq_nil_iff] at this;subst this;simp at hu
   | some a=>
     refine ⟨a,rfl,by show (0:Int)≤(i:Int); omega,by show (i:Int)<(l:Int); omega,nv u,hr _ _ ?_,?_⟩
     · show (ns.map nv)[((i:Int)).toNat*1]? = _;rw [Int.toNat_natCast,Nat.mul_one,List.getElem?_map,hu]
       rfl
     · show DI .u8 (.int .u8 (u:Int)) _;rw [aL];simp only [w8 (hlt i) hu8];have hK:again (((Tn 8 (p4 (4294967295 ^^^ sum) (ns.take i) ^^^ u):Nat):Int),wrap .i64 ((i:Int)+1)) h:=by
        rw [aN (by omega),← xh _ _ _ _ hu];exact ha
       refine (xd (K:=fun c=>again (c,wrap .i64 ((i:Int)+1)) h) (Crc.lx (hlt i) (by omega)) hK).mono ?_;intro ag s1 h1 H
       cases hd:decide (s1.2<8) with
       | true=>rw [hd] at H; exact H
       | false=>rw [hd] at H; obtain ⟨rfl,H⟩:=H; exact H
 · intro again;rw [af (show ¬ ((l:Int)<(l:Int)) by omega)];refine ⟨?_,rfl⟩;show Value.int .u32 (cf .xor .u32 4294967295 _)=_;rw [show (4294967295:Int)=((4294967295:Nat):Int) from rfl,sI (by decide) (hlt _)];rw [av (Nat.le_of_eq hl)]
   rfl
theorem rB {ns:List Nat} {a:Option Addr} {l c:Nat} {h:Heap} (hr:cv h a (ns.map nv)) (hns:∀ n∈ns,n<256) (hl:ns.length=l) (hb:l<9223372036854775807) :
  aE prog 131 [.slice a l c] h fun v h'=>v=.int .u32 (gf 0 ns:Nat)∧h'=h:=by
 apply Cu.ap
 unfold GZ
 refine (mZ (sum:=0) (by decide) hr hns hl hb).mono ?_
 rintro v h' ⟨rfl,rfl⟩
 simp
open Crc (p4 gf)
open Frame (g6 cC bZ cq fY ci aY gK nY ck dz)
theorem su {x:List Nat} (hx:B8 x) {c:Nat} (hc:c<4294967296):gf c x<4294967296:=Crc.vT hc hx
theorem Iq:prog.underlying 30=some (.slice 5):=by kernel_rfl
theorem Is:d8 prog 30=true:=by kernel_rfl
theorem i5:gj prog 5 1=true:=by kernel_rfl
theorem ru {ns:List Nat} {a:Option Addr} {l c:Nat} {h:Heap} (hr:cv h a (ns.map nv)) (h8:B8 ns) (hl:ns.length=l) (h4:4≤l) :
  aE prog 182 [.slice a l c] h fun v h'=>v=.int .u32 (cC ns:Nat)∧h'=h:=by
 apply BR.ap
 unfold GC
 match ns,hl with
 | x0::x1::x2::x3::r,hl=>
   have hm:((x0::x1::x2::x3::r).map nv).length=l:=by rw [aq]; exact hl
   refine bj (i:=0) hr hm (v:=nv x0) rfl fun b hb hc=>⟨_,hc,?_⟩
   show DI .u8 (.int .u8 (x0:Int)) _;rw [aL];refine ⟨by decide,bj (i:=1) hr hm (v:=nv x1) rfl fun b hb hc=>⟨_,hc,?_⟩⟩;show DI .u8 (.int .u8 (x1:Int)) _;rw [aL];refine ⟨by decide,bj (i:=2) hr hm (v:=nv x2) rfl fun b hb hc=>⟨_,hc,?_⟩⟩;show DI .u8 (.int .u8 (x2:Int)) _;rw [aL];refine ⟨by decide,bj (i:=3) hr hm (v:=nv x3) rfl fun b hb hc=>⟨_,hc,?_⟩⟩;show DI .u8 (.int .u8 (x3:Int)) _;rw [aL,DR (h8 x0 (by simp)) (h8 x1 (by simp)) (h8 x2 (by simp)) (h8 x3 (by simp))];exact ⟨rfl,rfl⟩
 | [],hl=>simp at hl; omega
 | [_],hl=>simp at hl; omega
 | [_,_],hl=>simp at hl; omega
 | [_,_,_],hl=>simp at hl; omega
theorem rC {n:Nat} (hn:n<4294967296) {h:Heap} {F:List aF} (hF:aG F h) :
  aE prog 129 [.int .u32 (n:Int)] h fun v h'=>∃ b,v=.slice (some ⟨b,0,none⟩) 4 4∧aG (aQ 5 1 (some ⟨b,0,none⟩) 4 4 ((g6 n).map nv)::F) h':=by
 apply Cw.ap
 unfold Hb
 refine ⟨by decide,by decide,by decide,aW hF fun b h' H=>⟨b,rfl,fe H (eD _) (by decide) (by unfold maxLen; decide) rfl ?_⟩⟩
 rw [show (24:Int)=((24:Nat):Int) from rfl,show (16:Int)=((16:Nat):Int) from rfl,show (8:Int)=((8:Nat):Int) from rfl,
  iz .u32 n 24 (by decide),iz .u32 n 16 (by decide),iz .u32 n 8 (by decide),fu,fu,fu,fu]
 rfl
theorem zt {x:List Nat} {a:Option Addr} {l c:Nat} {h:Heap} {F:List aF} (hF:aG F h) (hR:∀ h',aG F h'→cv h' a (x.map nv)) (h8:B8 x) (hl:x.length=l) (hm:l≤16777208) :
  aE prog 88 [.slice a l c] h fun v h'=>∃ b c',v=.tuple #[.slice (some b) (8+l) c',.int .i64 0]∧aG (aQ 5 1 (some b) (8+l) c' ((bZ x).map nv)::F) h':=by
 apply D8.ap
 unfold ID
 rw [af (show ¬ ((l:Int)>16777208) by omega),ab,IntWalk.u32_in (l:Int) (by omega)]
 refine (rC (by omega) hF).mono ?_
 rintro v h1 ⟨b1,rfl,H1⟩
 rw [aI]
 refine (rB (l:=4) (aH H1) (gK l) rfl (by decide)).mono ?_
 rintro v h2 ⟨rfl,rfl⟩
 rw [aL]
 have hM1:gf 0 (g6 l)<4294967296:=su (gK l) (by decide)
 refine (mZ hM1 (hR _ H1.drop) h8 hl (by omega)).mono ?_
 rintro v h3 ⟨rfl,rfl⟩
 rw [aL,← Crc.kx]
 have hM2:gf 0 (g6 l++x)<4294967296:=su ((gK l).append h8) (by decide)
 refine (rC hM2 H1).mono ?_
 rintro v h4 ⟨b2,rfl,H4⟩
 rw [aI]
 refine xg Iq Is i5 (H4.mv 1) (wv (aH H4) rfl) (by decide) fun a5 c5 h5 _ H5=>?_
 rw [aI]
 refine xg Iq Is i5 H5 (wv (hR _ H5.drop.drop) hl) (by omega) fun a6 c6 h6 h60 H6=>?_
 rw [aI]
 cases a6 with
 | none=>have:=h60 rfl; omega
 | some b=>
   refine ⟨b,c6,rfl,?_⟩;have:=(H6.mv 1).drop;subst hl;exact this
def A9 (x:List Nat) (h:Heap) (v:Value):Prop:=
 ∃ sa sl sc,v=.tuple #[.slice sa sl sc,.bool (cq x).isSome]∧∀ body,cq x=some body→body.length=sl∧cv h sa (body.map nv)∧sl≤sc∧sc≤maxLen
theorem xp {x:List Nat} {a:Option Addr} {l c:Nat} {h:Heap} (hr:cv h a (x.map nv)) (h8:B8 x) (hl:x.length=l) (hlc:l≤c) (hc:c≤maxLen) :
  aE prog 166 [.slice a l c] h fun v h'=>A9 x h v∧h'=h:=by
 apply BY.ap
 unfold GH
 have hcm:c≤9223372036854775807:=hc
 by_cases h1:l<8
 · rw [ah (show ((l:Int)<8) by omega),ae];have:cq x=none:=by unfold cq; rw [an (by omega)]
   exact ⟨⟨none,0,0,by rw [this]; rfl,fun b hb=>by rw [this] at hb; cases hb⟩,rfl⟩
 · rw [af (show ¬ ((l:Int)<8) by omega),ab];refine (ru hr h8 hl (by omega)).mono ?_;rintro v g ⟨rfl,rfl⟩;rw [aL];by_cases h2:cC x>16777208
   · rw [ah (show (((cC x:Nat):Int)>16777208) by omega),ae];have:cq x=none:=by unfold cq; rw [am (by omega),an h2]
     exact ⟨⟨none,0,0,by rw [this]; rfl,fun b hb=>by rw [this] at hb; cases hb⟩,rfl⟩
   · rw [af (show ¬ (((cC x:Nat):Int)>16777208) by omega),ab];have w1:wrap .i64 ((cC x:Nat):Int)=((cC x:Nat):Int):=dh (by omega);have w2:wrap .i64 ((l:Int) - 8)=((l - 8:Nat):Int):=by rw [IntWalk.i64_in _ (by omega)]; omega
     have w3:wrap .i64 (8+((cC x:Nat):Int))=((8+cC x:Nat):Int):=by rw [IntWalk.i64_in _ (by omega)]; omega
     rw [w1,w2,w3];by_cases h3:cC x>l - 8
     · rw [ah (show (((cC x:Nat):Int)>((l - 8:Nat):Int)) by omega),ae];have:cq x=none:=by unfold cq; rw [am (by omega),am h2,an (by omega)]
       exact ⟨⟨none,0,0,by rw [this]; rfl,fun b hb=>by rw [this] at hb; cases hb⟩,rfl⟩
     · rw [af (show ¬ (((cC x:Nat):Int)>((l - 8:Nat):Int)) by omega),ab];have hbl:((x.drop 8).take (cC x)).length=cC x:=by rw [au,length_drop]; omega
       have hb8:B8 ((x.drop 8).take (cC x)):=(h8.drop 8).take _;have r1:cv g (fG a 8 c 1) (((x.drop 8).take (cC x)).map nv):=by
        rw [map_take,map_drop];exact hr.sub 8 (cC x) c (by omega)
       have r2:cv g (fG a 4 c 1) ((x.drop 4).map nv):=by
        have:=hr.sub 4 (l - 4) c (by omega);rw [← map_drop,← map_take,av (by rw [length_drop]; omega)] at this;exact this
       have r3:cv g (fG a 0 c 1) ((x.take 4).map nv):=by
        have:=hr.sub 0 4 c (by omega);rw [drop_zero,← map_take] at this;exact this
       refine dI (lo:=8) (by omega) (by omega) (ax _) (dI (lo:=4) (by omega) (by omega) (ax _) ?_);refine ⟨_,(ru r2 (h8.drop 4) (by rw [length_drop,hl]) (by omega)).mono fun v h' ⟨e1,e2⟩=>⟨e1,e2⟩,?_⟩;rw [aL];refine dI (lo:=0) (hi:=4) (by omega) (by omega) (ax _) ?_;refine ⟨_,(rB r3 (h8.take 4) (by rw [au]; omega) (by omega)).mono fun v h' ⟨e1,e2⟩=>⟨e1,e2⟩,?_⟩;rw [aL];refine ⟨_,(mZ (su (h8.take 4) (by decide)) r1 hb8 (by rw [hbl]; omega) (by omega)).mono fun v h' ⟨e1,e2⟩=>⟨e1,e2⟩,?_⟩;rw [aL,FM];refine ⟨⟨fG a 8 c 1,8+cC x - 8,c - 8,?_,?_⟩,rfl⟩
       · congr 3;unfold cq;rw [am (by omega),am h2,am (by omega)];by_cases hs:cC (x.drop 4)=gf (gf 0 (x.take 4)) ((x.drop 8).take (cC x))
         · rw [an hs]; simp [hs]
         · rw [am hs]; simp [hs]
       · intro body hb;have:body=(x.drop 8).take (cC x):=by
          unfold cq at hb;rw [am (by omega),am h2,am (by omega)] at hb;split at hb
          · simp only [Option.some.injEq] at hb; exact hb.symm
          · cases hb
         subst this;exact ⟨by rw [hbl]; omega,r1,by omega,by omega⟩
end Go.Proofs.YtdpaiiibndnanaaGreatDoor
