/- The sum of bytes as plain arithmetic: bits shifted through the polynomial; linear,and no turned word goes unseen. Frames as plain lists of bytes: a frame is told back,what is cut off or turned is none. Sums and frames,in the program of seat r2. -/
import Derived.Test.YtibdiikcigokjaaGreatPyFwB
import Derived.Test.YtibdiikcigokjaaGreatPyTb
import Derived.Test.YtibdiikcigokjaaGreatPyTc
namespace Go.Proofs.YtibdiikcigokjaaGreat
open Go.IntKind (wrap)
open Go.Proofs.Tryz (prog)
open List (foldl_append mem_of_mem_take getD_eq_getElem?_getD take_left length_drop append_assoc drop_drop take_append_drop map_append map_eq_nil_iff getElem?_map map_take map_drop drop_zero)
namespace Crc
set_option linter.unusedVariables false
set_option linter.unusedSimpArgs false
def Ir:Nat:=2197175160
def T (c:Nat):Nat:=(c / 2) ^^^ (if c%2=1 then Ir else 0)
def Tn:Nat→Nat→Nat
 | 0,c=>c
 | n+1,c=>Tn n (T c)
def rI (c:Nat) (bs:List Nat):Nat:=bs.foldl (fun c b=>Tn 8 (c ^^^ b)) c
def gY (sum:Nat) (bs:List Nat):Nat:=4294967295 ^^^ rI (4294967295 ^^^ sum) bs
theorem Nr {c:Nat} (h:c<4294967296):T c<4294967296:=by
 unfold T
 have h1:c / 2<2^32:=by omega
 have h2:(if c%2=1 then Ir else 0)<2^32:=by split <;> decide
 exact Nat.xor_lt_two_pow h1 h2
theorem zk:∀ (n:Nat) {c:Nat},c<4294967296→Tn n c<4294967296
 | 0,_,h=>h
 | n+1,_,h=>zk n (Nr h)
theorem mJ {a b:Nat} (ha:a<4294967296) (hb:b<4294967296):a ^^^ b<4294967296:=Nat.xor_lt_two_pow (n:=32) ha hb
theorem rg:∀ (bs:List Nat) {c:Nat},c<4294967296→(∀ b∈bs,b<256)→rI c bs<4294967296
 | [],_,h,_=>h
 | b::bs,c,h,hb=>rg bs (c:=Tn 8 (c ^^^ b)) (zk 8 (mJ h (by have:=hb b (by simp); omega))) fun x hx=>hb x (by simp [hx])
theorem zn {bs:List Nat} {c:Nat} (h:c<4294967296) (hb:∀ b∈bs,b<256):gY c bs<4294967296:=
 mJ (by decide) (rg bs (mJ (by decide) h) hb)
theorem ni (c:Nat) (a b:List Nat):rI c (a++b)=rI (rI c a) b:=foldl_append ..
theorem EG (a b:Nat):a ^^^ (a ^^^ b)=b:=by rw [← Nat.xor_assoc,Nat.xor_self,Nat.zero_xor]
theorem lR (c:Nat) (a b:List Nat):gY c (a++b)=gY (gY c a) b:=by
 unfold gY
 rw [EG,ni]
end Crc
theorem B8.append {a b:List Nat} (ha:B8 a) (hb:B8 b):B8 (a++b):=fun n h=>(List.mem_append.1 h).elim (ha n) (hb n)
theorem B8.take {a:List Nat} (ha:B8 a) (k:Nat):B8 (a.take k):=fun n h=>ha n (mem_of_mem_take h)
theorem B8.drop {a:List Nat} (ha:B8 a) (k:Nat):B8 (a.drop k):=fun n h=>ha n (List.mem_of_mem_drop h)
theorem B8.getD {l:List Nat} (h:B8 l) (i:Nat):l.getD i 0<256:=by
 rw [getD_eq_getElem?_getD]
 cases he:l[i]? with
 | none=>decide
 | some x=>exact h x (ai he)
namespace Frame
open Crc (rI gY)
set_option linter.unusedVariables false
set_option linter.unusedSimpArgs false
def iK (n:Nat):List Nat:=[n / 16777216%256,n / 65536%256,n / 256%256,n%256]
def cQ (l:List Nat):Nat:=l.getD 0 0*16777216+l.getD 1 0*65536+l.getD 2 0*256+l.getD 3 0
theorem iJ (n:Nat):B8 (iK n):=by
 intro x hx
 simp only [iK,ay,List.mem_nil_iff,or_false] at hx
 rcases hx with rfl | rfl | rfl | rfl <;> exact Nat.mod_lt _ (by decide)
theorem uZ {n:Nat} (h:n<4294967296) (rest:List Nat):cQ (iK n++rest)=n:=by
 simp [cQ,iK]
 omega
theorem wB {l:List Nat} (h:B8 l) (hl:4≤l.length):iK (cQ l)=l.take 4:=by
 match l,hl with
 | a::b::c::d::r,_=>
   have ha:a<256:=h a (by simp);have hb:b<256:=h b (by simp);have hc:c<256:=h c (by simp);have hd:d<256:=h d (by simp);simp [iK,cQ];omega
theorem tQ {l:List Nat} (h:B8 l):cQ l<4294967296:=by
 have:=h.getD 0; have:=h.getD 1; have:=h.getD 2; have:=h.getD 3
 unfold cQ
 omega
def cH (x:List Nat):List Nat:=iK x.length++iK (gY 0 (iK x.length++x))++x
theorem dE (x:List Nat):(cH x).length=8+x.length:=by simp [cH,iK]; omega
theorem gh {x:List Nat} (h:B8 x):B8 (cH x):=((iJ _).append (iJ _)).append h
def cX (bs:List Nat):Option (List Nat):=
 if bs.length<8 then none
 else if cQ bs>16777208 then none
 else if cQ bs>bs.length - 8 then none
 else if cQ (bs.drop 4)=gY (gY 0 (bs.take 4)) ((bs.drop 8).take (cQ bs)) then some ((bs.drop 8).take (cQ bs)) else none
theorem wo {x:List Nat} (hx:B8 x) (hl:x.length≤16777208) (rest:List Nat):cX (cH x++rest)=some x:=by
 have e1:cH x++rest=iK x.length++(iK (gY 0 (iK x.length++x))++(x++rest)):=by simp [cH]
 have hlen:(cH x++rest).length=8+x.length+rest.length:=by rw [am,dE]
 have hv:cQ (cH x++rest)=x.length:=by rw [e1]; exact uZ (by omega) _
 have hd4:(cH x++rest).drop 4=iK (gY 0 (iK x.length++x))++(x++rest):=by rw [e1]; rfl
 have hd8:(cH x++rest).drop 8=x++rest:=by rw [e1]; rfl
 have ht4:(cH x++rest).take 4=iK x.length:=by rw [e1]; rfl
 have hbody:((cH x++rest).drop 8).take x.length=x:=by rw [hd8]; exact take_left
 unfold cX
 rw [hlen,hv,hbody,hd4,ht4,uZ (Crc.zn (by decide) ((iJ _).append hx)),← Crc.lR,ak (by omega),ak (by omega),ak (by omega),al rfl]
theorem jD {bs x:List Nat} (hb:B8 bs) (h:cX bs=some x):bs=cH x++bs.drop (8+x.length)∧x.length≤16777208∧8+x.length≤bs.length∧x=(bs.drop 8).take x.length∧cQ bs=x.length∧B8 x:=by
 unfold cX at h
 split at h
 · cases h
 · split at h
   · cases h
   · split at h
     · cases h
     · split at h
       · rename_i h1 h2 h3 h4;simp only [Option.some.injEq] at h;have hxl:x.length=cQ bs:=by
          rw [← h,aq,length_drop];omega
         have hx8:B8 x:=by rw [← h]; exact (hb.drop 8).take _
         have e4:iK x.length=bs.take 4:=by rw [hxl]; exact wB hb (by omega)
         have e5:iK (gY 0 (iK x.length++x))=(bs.drop 4).take 4:=by
          rw [Crc.lR,e4,← h,← h4];exact wB (hb.drop 4) (by rw [length_drop]; omega)
         refine ⟨?_,by omega,by omega,by rw [hxl]; exact h.symm,hxl.symm,hx8⟩;unfold cH;rw [e5,e4];have hx2:x=(bs.drop 8).take x.length:=by rw [hxl]; exact h.symm
         conv=>rhs; rw [append_assoc]; rhs; lhs; rw [hx2]
         rw [← drop_drop,take_append_drop,append_assoc];have e6:bs.drop 8=(bs.drop 4).drop 4:=by rw [drop_drop]
         rw [e6,take_append_drop,take_append_drop]
       · cases h
def fy (bs:List Nat):List Nat×Bool:=
 if bs.length<8 then ([],false)
 else if cQ bs>bs.length - 8 then ([],false)
 else ((bs.drop 8).take (cQ bs),decide (cQ bs≤16777208)&&decide (cH ((bs.drop 8).take (cQ bs))=bs.take (8+cQ bs)))
theorem uu {bs:List Nat} (hb:B8 bs):cX bs=if (fy bs).2 then some (fy bs).1 else none:=by
 by_cases h1:bs.length<8
 · simp [cX,fy,h1]
 · by_cases h2:cQ bs>bs.length - 8
   · simp [cX,fy,h1,h2]
   · by_cases h3:cQ bs>16777208
     · have h3':¬ cQ bs≤16777208:=by omega
       simp [cX,fy,h1,h2,h3,h3']
     · have h3':cQ bs≤16777208:=by omega
       have hbl:((bs.drop 8).take (cQ bs)).length=cQ bs:=by rw [aq,length_drop]; omega
       cases hf:cX bs with
       | some x=>
         obtain ⟨e,hl,hle,hx,hv,_⟩:=jD hb hf;have hx':(bs.drop 8).take (cQ bs)=x:=by rw [hv]; exact hx.symm
         have hp:cH x=bs.take (8+cQ bs):=by
          rw [hv,e,List.take_append_of_le_length (by rw [dE]; omega),ar (by rw [dE]; omega)]
         simp [fy,h1,h2,h3',hx',hp]
       | none=>
         have hn:¬ cH ((bs.drop 8).take (cQ bs))=bs.take (8+cQ bs):=fun hp=>by
          have e:bs=cH ((bs.drop 8).take (cQ bs))++bs.drop (8+cQ bs):=by rw [hp,take_append_drop]
          have:=wo ((hb.drop 8).take (cQ bs)) (by omega) (bs.drop (8+cQ bs));rw [← e,hf] at this;cases this
         simp [fy,h1,h2,h3',hn]
end Frame
open Go Go.RowKit
set_option linter.unusedVariables false
set_option linter.unusedSimpArgs false
open Crc (T Tn rI gY)
theorem Hw (bs:List UInt8):∀ b∈nb bs,b<256:=fun b h=>by
 obtain ⟨u,_,rfl⟩:=List.mem_map.1 h
 exact u.toNat_lt
theorem z8 (a b:List UInt8):nb (a++b)=nb a++nb b:=map_append
theorem AL (c:Nat) (ns:List Nat) (i u:Nat) (hi:ns[i]? = some u):rI c (ns.take (i+1))=Tn 8 (rI c (ns.take i) ^^^ u):=by
 have:ns.take (i+1)=ns.take i++[u]:=by
  rw [ax,hi]
  rfl
 rw [this,Crc.ni]
 rfl
theorem C3 (c:Nat) (bs:List UInt8) (i:Nat) (u:UInt8) (hi:bs[i]? = some u):rI c (nb (bs.take (i+1)))=Tn 8 (rI c (nb (bs.take i)) ^^^ u.toNat):=by
 have hlt:=(aj.1 hi).1
 have:bs.take (i+1)=bs.take i++[u]:=by
  rw [ax,hi]
  rfl
 rw [this,z8,Crc.ni]
 rfl
theorem uH:∀ (j c:Nat),Tn (j+1) c=T (Tn j c)
 | 0,c=>rfl
 | j+1,c=>by
   show Tn (j+1) (T c)=T (Tn j (T c));exact uH j (T c)
theorem Il {c:Nat} (h:c<4294967296) :
  bq .xor .u32 (jK .u32 (c:Int) 1) (bq .and .u32 2197175160 (wrap .u32 (0 - bq .and .u32 (c:Int) 1)))=((T c:Nat):Int):=by
 have e1:bq .and .u32 (c:Int) 1=((c%2:Nat):Int):=by
  have:=Ll h (b:=1) (by decide);rw [Nat.and_one_is_mod] at this;exact this
 have e2:jK .u32 (c:Int) 1=((c / 2:Nat):Int):=io .u32 c 1 (by decide)
 have hd:c / 2<4294967296:=by omega
 rw [e1,e2]
 unfold Crc.T
 by_cases ho:c%2=1
 · rw [ho,al rfl];have e3:wrap .u32 (0 - ((1:Nat):Int))=((4294967295:Nat):Int):=by decide
   have e4:bq .and .u32 2197175160 ((4294967295:Nat):Int)=((Crc.Ir:Nat):Int):=by decide
   rw [e3,e4];exact uY hd (by decide)
 · have h0:c%2=0:=by omega
   rw [h0,ak (by decide)];have e3:wrap .u32 (0 - ((0:Nat):Int))=((0:Nat):Int):=by decide
   have e4:bq .and .u32 2197175160 ((0:Nat):Int)=((0:Nat):Int):=by decide
   rw [e3,e4];exact uY hd (by decide)
theorem AC {c u:Nat} (h:c<4294967296) (hu:u<256):bq .xor .u32 (c:Int) (wrap .u32 (u:Int))=((c ^^^ u:Nat):Int):=by
 rw [IntWalk.u32_in _ (by omega)]
 exact uY h (by omega)
theorem AD {c:Nat} (hc:c<4294967296) {h:Heap} {K:Int→Prop} (hK:K ((Tn 8 c:Nat):Int)) :
  aU (fun (again1:Int×Int→Heap→Prop) (s1:Int×Int) h_1=>
   (bif decide ((s1.2:Int)<8) then
    0≤(1:Int)∧
    again1 (bq .xor .u32 (jK .u32 s1.1 1) (bq .and .u32 2197175160 (wrap .u32 (0 - (bq .and .u32 s1.1 1)))),wrap .i64 (s1.2+1)) h_1
   else
    h_1=h∧K s1.1)) ((c:Int),0) h:=by
 refine aU.count 8 (fun j=>(((Tn j c:Nat):Int),(j:Int))) (fun s=>(8 - s.2).toNat) (fun i hi=>by simp) ?_ ?_
 · intro i again hi ha;rw [af (show ((i:Int)<8) by omega)];refine ⟨by decide,?_⟩;rw [Il (Crc.zk i hc),aH (by omega),← uH];exact ha
 · intro again;exact ⟨rfl,hK⟩
theorem aU.mono {S:Type} {F G:(S→Heap→Prop)→S→Heap→Prop} {s:S} {h:Heap} (H:aU F s h) (hfg:∀ again s h,F again s h→G again s h):aU G s h:=
 let ⟨I,μ,h0,hs⟩:=H
 ⟨I,μ,h0,fun s h hi=>hfg _ _ _ (hs s h hi)⟩
theorem pd {sum:Nat} (hs:sum<4294967296) {ns:List Nat} {a:Option Addr} {l c:Nat} {h:Heap} (hr:dw h a (ns.map nv)) (hns:∀ n∈ns,n<256) (hl:ns.length=l) (hb:l<9223372036854775807) :
  aC prog 205 [.int .u32 sum,.slice a l c] h fun v h'=>v=.int .u32 (gY sum ns:Nat)∧h'=h:=by
 apply Gj.ap
 unfold L0
 have hx:bq .xor .u32 4294967295 (sum:Int)=((4294967295 ^^^ sum:Nat):Int):=uY (by decide) hs
 have hlt:∀ i,rI (4294967295 ^^^ sum) (ns.take i)<4294967296:=fun i=>Crc.rg _ (Crc.mJ (by decide) hs) fun n hn=>hns n (mem_of_mem_take hn)
 rw [hx]
 refine aU.count l (fun i=>(((rI (4294967295 ^^^ sum) (ns.take i):Nat):Int),(i:Int))) (fun s=>((l:Int) - s.2).toNat) (fun i hi=>by simp) ?_ ?_
 · intro i again hi ha;rw [af (show ((i:Int)<(l:Int)) by omega)];obtain ⟨u,hu⟩:∃ u,ns[i]? = some u:=⟨_,ah (by omega)⟩
   have hu8:u<256:=hns u (ai hu)
   cases a with
   | none=>
     have:ns.map nv=[]:=hr;rw [map_eq_nil_iff] at this;subst this;simp at hu
   | some a=>
     refine ⟨a,rfl,by show (0:Int)≤(i:Int); omega,by show (i:Int)<(l:Int); omega,nv u,hr _ _ ?_,?_⟩
     · show (ns.map nv)[((i:Int)).toNat*1]? = _;rw [Int.toNat_natCast,Nat.mul_one,getElem?_map,hu]
       rfl
     · show DI .u8 (.int .u8 (u:Int)) _;rw [aK];simp only [AC (hlt i) hu8];have hK:again (((Tn 8 (rI (4294967295 ^^^ sum) (ns.take i) ^^^ u):Nat):Int),wrap .i64 ((i:Int)+1)) h:=by
        rw [aH (by omega),← AL _ _ _ _ hu];exact ha
       refine (AD (K:=fun c=>again (c,wrap .i64 ((i:Int)+1)) h) (Crc.mJ (hlt i) (by omega)) hK).mono ?_;intro ag s1 h1 H
       cases hd:decide (s1.2<8) with
       | true=>rw [hd] at H; exact H
       | false=>rw [hd] at H; obtain ⟨rfl,H⟩:=H; exact H
 · intro again;rw [ae (show ¬ ((l:Int)<(l:Int)) by omega)];refine ⟨?_,rfl⟩;show Value.int .u32 (bq .xor .u32 4294967295 _)=_;rw [show (4294967295:Int)=((4294967295:Nat):Int) from rfl,uY (by decide) (hlt _)];rw [ar (Nat.le_of_eq hl)]
   rfl
theorem tt {ns:List Nat} {a:Option Addr} {l c:Nat} {h:Heap} (hr:dw h a (ns.map nv)) (hns:∀ n∈ns,n<256) (hl:ns.length=l) (hb:l<9223372036854775807) :
  aC prog 206 [.slice a l c] h fun v h'=>v=.int .u32 (gY 0 ns:Nat)∧h'=h:=by
 apply Gi.ap
 unfold LZ
 refine (pd (sum:=0) (by decide) hr hns hl hb).mono ?_
 rintro v h' ⟨rfl,rfl⟩
 simp
open Crc (rI gY)
open Frame (iK cQ cH cX fy iJ tQ dE gh)
theorem uK {x:List Nat} (hx:B8 x) {c:Nat} (hc:c<4294967296):gY c x<4294967296:=Crc.zn hc hx
theorem MZ:prog.underlying 35=some (.slice 5):=by kernel_rfl
theorem M7:fF prog 35=true:=by kernel_rfl
theorem i5:gQ prog 5 1=true:=by kernel_rfl
theorem tq {ns:List Nat} {a:Option Addr} {l c:Nat} {h:Heap} (hr:dw h a (ns.map nv)) (h8:B8 ns) (hl:ns.length=l) (h4:4≤l) :
  aC prog 240 [.slice a l c] h fun v h'=>v=.int .u32 (cQ ns:Nat)∧h'=h:=by
 apply F2.ap
 unfold LT
 match ns,hl with
 | x0::x1::x2::x3::r,hl=>
   have hm:((x0::x1::x2::x3::r).map nv).length=l:=by rw [an]; exact hl
   refine cm (i:=0) hr hm (v:=nv x0) rfl fun b hb hc=>⟨_,hc,?_⟩
   show DI .u8 (.int .u8 (x0:Int)) _;rw [aK];refine ⟨by decide,cm (i:=1) hr hm (v:=nv x1) rfl fun b hb hc=>⟨_,hc,?_⟩⟩;show DI .u8 (.int .u8 (x1:Int)) _;rw [aK];refine ⟨by decide,cm (i:=2) hr hm (v:=nv x2) rfl fun b hb hc=>⟨_,hc,?_⟩⟩;show DI .u8 (.int .u8 (x2:Int)) _;rw [aK];refine ⟨by decide,cm (i:=3) hr hm (v:=nv x3) rfl fun b hb hc=>⟨_,hc,?_⟩⟩;show DI .u8 (.int .u8 (x3:Int)) _;rw [aK,IR (h8 x0 (by simp)) (h8 x1 (by simp)) (h8 x2 (by simp)) (h8 x3 (by simp))];exact ⟨rfl,rfl⟩
 | [],hl=>simp at hl; omega
 | [_],hl=>simp at hl; omega
 | [_,_],hl=>simp at hl; omega
 | [_,_,_],hl=>simp at hl; omega
theorem tu {n:Nat} (hn:n<4294967296) {h:Heap} {F:List aG} (hF:aD F h) :
  aC prog 204 [.int .u32 (n:Int)] h fun v h'=>∃ b,v=.slice (some ⟨b,0,none⟩) 4 4∧aD (aL 5 1 (some ⟨b,0,none⟩) 4 4 ((iK n).map nv)::F) h':=by
 apply Gk.ap
 unfold L1
 refine ⟨by decide,by decide,by decide,aQ hF fun b h' H=>⟨b,rfl,eW H (bP _) (by decide) (by unfold maxLen; decide) rfl ?_⟩⟩
 rw [show (24:Int)=((24:Nat):Int) from rfl,show (16:Int)=((16:Nat):Int) from rfl,show (8:Int)=((8:Nat):Int) from rfl,
  io .u32 n 24 (by decide),io .u32 n 16 (by decide),io .u32 n 8 (by decide),d9,d9,d9,d9]
 rfl
theorem Be {x:List Nat} {a:Option Addr} {l c:Nat} {h:Heap} {F:List aG} (hF:aD F h) (hR:∀ h',aD F h'→dw h' a (x.map nv)) (h8:B8 x) (hl:x.length=l) (hm:l≤16777208) :
  aC prog 165 [.slice a l c] h fun v h'=>∃ b c',v=.tuple #[.slice (some b) (8+l) c',.int .i64 0]∧aD (aL 5 1 (some b) (8+l) c' ((cH x).map nv)::F) h':=by
 apply zv.ap
 unfold J5
 rw [ae (show ¬ ((l:Int)>16777208) by omega),aa,IntWalk.u32_in (l:Int) (by omega)]
 refine (tu (by omega) hF).mono ?_
 rintro v h1 ⟨b1,rfl,H1⟩
 rw [aF]
 refine (tt (l:=4) (aI H1) (iJ l) rfl (by decide)).mono ?_
 rintro v h2 ⟨rfl,rfl⟩
 rw [aK]
 have hM1:gY 0 (iK l)<4294967296:=uK (iJ l) (by decide)
 refine (pd hM1 (hR _ H1.drop) h8 hl (by omega)).mono ?_
 rintro v h3 ⟨rfl,rfl⟩
 rw [aK,← Crc.lR]
 have hM2:gY 0 (iK l++x)<4294967296:=uK ((iJ l).append h8) (by decide)
 refine (tu hM2 H1).mono ?_
 rintro v h4 ⟨b2,rfl,H4⟩
 rw [aF]
 refine oX MZ M7 i5 (H4.mv 1) (rz (aI H4) rfl) (by decide) fun a5 c5 h5 _ H5=>?_
 rw [aF]
 refine oX MZ M7 i5 H5 (rz (hR _ H5.drop.drop) hl) (by omega) fun a6 c6 h6 h60 H6=>?_
 rw [aF]
 cases a6 with
 | none=>have:=h60 rfl; omega
 | some b=>
   refine ⟨b,c6,rfl,?_⟩;have:=(H6.mv 1).drop;subst hl;exact this
def Fw (x:List Nat) (h:Heap) (v:Value):Prop:=
 ∃ sa sl sc,v=.tuple #[.slice sa sl sc,.bool (cX x).isSome]∧∀ body,cX x=some body→body.length=sl∧dw h sa (body.map nv)∧sl≤sc∧sc≤maxLen
theorem A7 {x:List Nat} {a:Option Addr} {l c:Nat} {h:Heap} (hr:dw h a (x.map nv)) (h8:B8 x) (hl:x.length=l) (hlc:l≤c) (hc:c≤maxLen) :
  aC prog 196 [.slice a l c] h fun v h'=>Fw x h v∧h'=h:=by
 apply Gq.ap
 unfold L5
 have hcm:c≤9223372036854775807:=hc
 by_cases h1:l<8
 · rw [af (show ((l:Int)<8) by omega),ab];have:cX x=none:=by unfold cX; rw [al (by omega)]
   exact ⟨⟨none,0,0,by rw [this]; rfl,fun b hb=>by rw [this] at hb; cases hb⟩,rfl⟩
 · rw [ae (show ¬ ((l:Int)<8) by omega),aa];refine (tq hr h8 hl (by omega)).mono ?_;rintro v g ⟨rfl,rfl⟩;rw [aK];by_cases h2:cQ x>16777208
   · rw [af (show (((cQ x:Nat):Int)>16777208) by omega),ab];have:cX x=none:=by unfold cX; rw [ak (by omega),al h2]
     exact ⟨⟨none,0,0,by rw [this]; rfl,fun b hb=>by rw [this] at hb; cases hb⟩,rfl⟩
   · rw [ae (show ¬ (((cQ x:Nat):Int)>16777208) by omega),aa];have w1:wrap .i64 ((cQ x:Nat):Int)=((cQ x:Nat):Int):=cv (by omega);have w2:wrap .i64 ((l:Int) - 8)=((l - 8:Nat):Int):=by rw [IntWalk.i64_in _ (by omega)]; omega
     have w3:wrap .i64 (8+((cQ x:Nat):Int))=((8+cQ x:Nat):Int):=by rw [IntWalk.i64_in _ (by omega)]; omega
     rw [w1,w2,w3];by_cases h3:cQ x>l - 8
     · rw [af (show (((cQ x:Nat):Int)>((l - 8:Nat):Int)) by omega),ab];have:cX x=none:=by unfold cX; rw [ak (by omega),ak h2,al (by omega)]
       exact ⟨⟨none,0,0,by rw [this]; rfl,fun b hb=>by rw [this] at hb; cases hb⟩,rfl⟩
     · rw [ae (show ¬ (((cQ x:Nat):Int)>((l - 8:Nat):Int)) by omega),aa];have hbl:((x.drop 8).take (cQ x)).length=cQ x:=by rw [aq,length_drop]; omega
       have hb8:B8 ((x.drop 8).take (cQ x)):=(h8.drop 8).take _;have r1:dw g (gJ a 8 c 1) (((x.drop 8).take (cQ x)).map nv):=by
        rw [map_take,map_drop];exact hr.sub 8 (cQ x) c (by omega)
       have r2:dw g (gJ a 4 c 1) ((x.drop 4).map nv):=by
        have:=hr.sub 4 (l - 4) c (by omega);rw [← map_drop,← map_take,ar (by rw [length_drop]; omega)] at this;exact this
       have r3:dw g (gJ a 0 c 1) ((x.take 4).map nv):=by
        have:=hr.sub 0 4 c (by omega);rw [drop_zero,← map_take] at this;exact this
       refine gn (lo:=8) (by omega) (by omega) (av _) (gn (lo:=4) (by omega) (by omega) (av _) ?_);refine ⟨_,(tq r2 (h8.drop 4) (by rw [length_drop,hl]) (by omega)).mono fun v h' ⟨e1,e2⟩=>⟨e1,e2⟩,?_⟩;rw [aK];refine gn (lo:=0) (hi:=4) (by omega) (by omega) (av _) ?_;refine ⟨_,(tt r3 (h8.take 4) (by rw [aq]; omega) (by omega)).mono fun v h' ⟨e1,e2⟩=>⟨e1,e2⟩,?_⟩;rw [aK];refine ⟨_,(pd (uK (h8.take 4) (by decide)) r1 hb8 (by rw [hbl]; omega) (by omega)).mono fun v h' ⟨e1,e2⟩=>⟨e1,e2⟩,?_⟩;rw [aK,Li];refine ⟨⟨gJ a 8 c 1,8+cQ x - 8,c - 8,?_,?_⟩,rfl⟩
       · congr 3;unfold cX;rw [ak (by omega),ak h2,ak (by omega)];by_cases hs:cQ (x.drop 4)=gY (gY 0 (x.take 4)) ((x.drop 8).take (cQ x))
         · rw [al hs]; simp [hs]
         · rw [ak hs]; simp [hs]
       · intro body hb;have:body=(x.drop 8).take (cQ x):=by
          unfold cX at hb;rw [ak (by omega),ak h2,ak (by omega)] at hb;split at hb
          · simp only [Option.some.injEq] at hb; exact hb.symm
          · cases hb
         subst this;exact ⟨by rw [hbl]; omega,r1,by omega,by omega⟩
theorem Bi {x:List Nat} {a:Option Addr} {l c:Nat} {h:Heap} {F:List aG} (hF:aD F h) (hR:dw h a (x.map nv)) (h8:B8 x) (hl:x.length=l) (hlc:l≤c) (hc:c≤maxLen) (hm:l≤140737488355328) :
  aC prog 152 [.slice a l c] h fun v h'=>∃ a' l' c' e,v=.tuple #[.slice a' l' c',.int .i64 e]∧
   ((∃ body,cX x=some body∧body.length+8=l∧e=0∧l'=body.length∧aD (aL 5 1 a' l' c' (body.map nv)::F) h')∨
    ((∀ body,cX x=some body→body.length+8≠l)∧e=52∧l'=0∧aD (aL 5 1 a' l' c' (([]:List Nat).map nv)::F) h')):=by
 apply GH.ap
 unfold Mj
 refine (A7 hR h8 hl hlc hc).mono ?_
 rintro v h1 ⟨⟨sa,sl,sc,rfl,hb⟩,rfl⟩
 refine ⟨sa,sl,sc,_,rfl,?_⟩
 have hcm:c≤9223372036854775807:=hc
 cases hf:cX x with
 | none=>
   simp only [Option.isSome_none,aA,ab];exact ⟨none,0,0,52,rfl,.inr ⟨fun b hb=>(by cases hb),rfl,rfl,bG 5 1 hF⟩⟩
 | some body=>
   obtain ⟨hbl,hbr,hbc,hbm⟩:=hb body hf;obtain ⟨_,hb2,hb3,_,_,hb8⟩:=Frame.jD h8 hf;simp only [Option.isSome_some,az,aa];have w1:wrap .i64 ((sl:Int)+8)=((sl+8:Nat):Int):=by rw [IntWalk.i64_in _ (by omega)]; omega
   rw [w1,C0];by_cases he:sl+8=l
   · rw [ae (by simpa using he),aa];refine oX (xs:=[]) MZ M7 i5 (bG 5 1 hF) (rz hbr hbl) (by omega) fun a' c' h' _ H=>?_;rw [aF];refine ⟨a',0+sl,c',0,rfl,.inl ⟨body,rfl,by omega,rfl,by omega,H⟩⟩
   · rw [af (by simpa using he),ab];exact ⟨none,0,0,52,rfl,.inr ⟨fun b hb=>(by simp only [Option.some.injEq] at hb; subst hb; omega),rfl,rfl,bG 5 1 hF⟩⟩
end Go.Proofs.YtibdiikcigokjaaGreat
