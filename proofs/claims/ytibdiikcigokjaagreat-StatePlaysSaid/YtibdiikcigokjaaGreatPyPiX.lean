/- Numbers,texts,pairs out of any bytes: plain; the program's Unnum (seat S). -/
import Derived.Test.YtibdiikcigokjaaGreatPyPbX
import Derived.Test.YtibdiikcigokjaaGreatPyTx
import Derived.Tactics
import Derived.Tactics2
import Derived.Defers
import Derived.Recover
import Derived.Laws.Pointers
import Derived.TacticsInMore
import Derived.RegionIn
import Derived.RecoverIn
namespace Go.Proofs.YtibdiikcigokjaaGreat
open Go.IntKind (wrap)
open Go.Proofs.Tryz (prog)
open List (mem_of_mem_take length_drop append_assoc take_append_drop getElem?_map map_drop flatMap_append append_nil eq_nil_of_length_eq_zero drop_eq_getElem_cons drop_of_length_le)
open Go Go.RowKit Go.MapKept
set_option linter.unusedVariables false
set_option linter.unusedSimpArgs false
def ci:Nat→Nat→List Nat→Option (Nat×Nat)
 | _,_,[]=>none
 | i,n,c::l=>if (i=9∧1<c)∨(0<i∧c=0) then none else if c<128 then some (n+c%128*2^(7*i),i+1) else ci (i+1) (n+c%128*2^(7*i)) l
def fh (l:List Nat):Option (List Nat×List Nat):=match ci 0 0 l with
 | none=>none
 | some (n,k)=>if (l.drop k).length<n then none else some ((l.drop k).take n,(l.drop k).drop n)
def fR (l:List Nat):Option ((ByteArray×ByteArray)×List Nat):=match fh l with
 | none=>none
 | some (a,r)=>match fh r with
   | none=>none
   | some (b,s)=>some ((cn a,cn b),s)
def bK:Nat→List Nat→Option (List (ByteArray×ByteArray)×List Nat)
 | 0,l=>some ([],l)
 | n+1,l=>match fR l with
   | none=>none
   | some (p,r)=>match bK n r with
     | none=>none
     | some (ps,s)=>some (p::ps,s)
def co (l:List Nat):Option (List (ByteArray×ByteArray)):=match ci 0 0 l with
 | none=>none
 | some (n,k)=>match bK n (l.drop k) with
   | some (ps,[])=>if l.length≤16777216 then some ps else none
   | _=>none
theorem jS:∀ (l:List Nat) (i n m k:Nat),ci i n l=some (m,k)→i<k∧k≤i+l.length
 | [],i,n,m,k,h=>by cases h
 | c::l,i,n,m,k,h=>by
   unfold ci at h;split at h
   · cases h
   · split at h
     · cases h;exact ⟨by omega,by rw [ao]; omega⟩
     · have:=jS l _ _ _ _ h;rw [ao];omega
theorem KC {i:Nat} (hi:i≤9):2^(7*i)≤9223372036854775808∧2^(7*(i+1))=128*2^(7*i):=by
 refine ⟨?_,by rw [Nat.mul_add,Nat.pow_add,Nat.mul_comm]⟩
 have:2^(7*i)≤2^63:=Nat.pow_le_pow_right (by decide) (by omega)
 exact this
theorem jF {acc c i:Nat} (hi:i≤9) (ha:acc<2^(7*i)) (h9:i=9→c≤1):c%128*2^(7*i)<18446744073709551616∧acc+c%128*2^(7*i)<18446744073709551616∧acc+c%128*2^(7*i)<2^(7*(i+1)):=by
 obtain ⟨p1,p2⟩:=KC hi
 have e2:c%128*2^(7*i)≤127*2^(7*i):=Nat.mul_le_mul_right _ (by omega)
 by_cases h:i=9
 · have h1:=h9 h;have e3:c%128*2^(7*i)≤1*2^(7*i):=Nat.mul_le_mul_right _ (by omega);rw [p2];omega
 · have p3:2^(7*i)≤2^56:=Nat.pow_le_pow_right (by decide) (by omega);have p4:(2:Nat)^56=72057594037927936:=by decide
   rw [p2];omega
theorem wx {acc c i:Nat} (hc:c<256) (hi:i≤9) (ha:acc<2^(7*i)) (h9:i=9→c≤1) :
  bq .or .u64 (acc:Int) (ft .u64 (wrap .u64 (bq .and .u8 (c:Int) 127)) (wrap .i64 (7*(i:Int))))=((acc+c%128*2^(7*i):Nat):Int):=by
 obtain ⟨b1,b2,b3⟩:=jF hi ha h9
 obtain ⟨p1,_⟩:=KC hi
 rw [IS hc,IntWalk.u64_in _ (by omega)]
 have e:wrap .i64 (7*(i:Int))=((7*i:Nat):Int):=by rw [IntWalk.i64_in _ (by omega)]; omega
 rw [e,Ht (by omega) b1,Nb (by omega) b1,Is ha]
def ov:Option (Nat×Nat)→Value
 | some (n,k)=>.tuple #[.int .u64 (n:Int),.int .i64 (k:Int),.int .i64 0]
 | none=>.tuple #[.int .u64 0,.int .i64 0,.int .i64 41]
theorem jR:∀ (l:List Nat) (i n m k:Nat),i≤9→n<2^(7*i)→ci i n l=some (m,k)→m<18446744073709551616
 | [],i,n,m,k,_,_,h=>by cases h
 | c::l,i,n,m,k,hi,hn,h=>by
   unfold ci at h;split at h
   · cases h
   · rename_i hno;have h9:i=9→c≤1:=fun e=>by
      by_cases hc:1<c
      · exact absurd (.inl ⟨e,hc⟩) hno
      · omega
     obtain ⟨b1,b2,b3⟩:=jF hi hn h9;split at h
     · cases h;exact b2
     · exact jR l _ _ _ _ (by by_cases e:i=9 <;> omega) b3 h
section
variable {F:List aG} {h:Heap}
set_option maxHeartbeats 1000000 in
set_option maxRecDepth 20000 in
theorem DG {a:Option Addr} {c:Nat} {bs:List Nat} (h8:B8 bs) (hl:bs.length≤1099511627776) (hR:dw h a (bs.map nv)) :
  aC prog 241 [.slice a bs.length c] h fun v h'=>h'=h∧v=ov (ci 0 0 bs):=by
 apply F1.ap
 unfold LS
 refine aU.by (fun s h2=>h2=h∧∃ (i acc:Nat),s=((acc:Int),(i:Int))∧i≤bs.length∧i≤9+1∧(i≤9∨False)∧acc<2^(7*i)∧ci 0 0 bs=ci i acc (bs.drop i)) (fun s=>10 - s.2.toNat) ⟨rfl,0,0,rfl,au _,by decide,.inl (by decide),by decide,rfl⟩ ?_
 rintro s h2 again ⟨rfl,i,acc,rfl,hi,_,h99,ha,hg⟩ go
 have hi9:i≤9:=h99.resolve_right id
 dsimp only
 by_cases hil:i<bs.length
 rotate_left
 · rw [ae (show ¬ ((i:Int)<(bs.length:Int)) by omega),aa];refine ⟨rfl,?_⟩;rw [hg,drop_of_length_le (by omega)]
   rfl
 rw [af (show ((i:Int)<(bs.length:Int)) by omega),ab]
 obtain ⟨cc,hcc⟩:∃ x,bs[i]? = some x:=⟨_,ah hil⟩
 have hc8:cc<256:=h8 _ (ai hcc)
 have hdrop:bs.drop i=cc::bs.drop (i+1):=by
  rw [drop_eq_getElem_cons hil];rw [ah hil] at hcc;rw [Option.some.inj hcc]
 rw [hdrop] at hg
 refine cm hR (by rw [an]) (by rw [getElem?_map,hcc]; rfl) fun b hb hcell=>⟨nv cc,hcell,(cc:Int),rfl,?_⟩
 have hwr:wrap .i64 ((i:Int)+1)=((i+1:Nat):Int):=by rw [IntWalk.i64_in _ (by omega)]; omega
 have h7:(0:Int)≤wrap .i64 (7*(i:Int)):=by rw [IntWalk.i64_in _ (by omega)]; omega
 have bad:((i=9∧1<cc)∨(0<i∧cc=0))→ov (ci 0 0 bs)=.tuple #[.int .u64 0,.int .i64 0,.int .i64 41]:=fun hb=>by
  rw [hg];unfold ci;rw [al hb]
  rfl
 have tail:¬ ((i=9∧1<cc)∨(0<i∧cc=0))→(0:Int)≤wrap .i64 (7*(i:Int))∧(bif decide ((cc:Int)<128) then
   h2=h2∧Value.tuple #[.int .u64 (bq .or .u64 (acc:Int) (ft .u64 (wrap .u64 (bq .and .u8 (cc:Int) 127)) (wrap .i64 (7*(i:Int))))),.int .i64 (wrap .i64 ((i:Int)+1)),.int .i64 0]=ov (ci 0 0 bs)
   else again (bq .or .u64 (acc:Int) (ft .u64 (wrap .u64 (bq .and .u8 (cc:Int) 127)) (wrap .i64 (7*(i:Int)))),wrap .i64 ((i:Int)+1)) h2):=fun hno=>by
  have h9:i=9→cc≤1:=fun e=>by
   by_cases hc:1<cc
   · exact absurd (.inl ⟨e,hc⟩) hno
   · omega
  obtain ⟨b1,b2,b3⟩:=jF hi9 ha h9;refine ⟨h7,?_⟩;rw [wx hc8 hi9 ha h9,hwr]
  conv at hg=>rhs; unfold ci
  rw [ak hno] at hg;by_cases hlt:cc<128
  · rw [af (show (cc:Int)<128 by omega),ab];rw [al hlt] at hg;exact ⟨rfl,by rw [hg]; rfl⟩
  · rw [ae (show ¬ (cc:Int)<128 by omega),aa];rw [ak hlt] at hg;have hi8:i≤8:=by by_cases e:i=9 <;> omega
    exact go _ _ ⟨rfl,i+1,_,rfl,by omega,by omega,.inl (by omega),b3,hg⟩ (by simp only [Int.toNat_natCast]; omega)
 have zero:(bif decide ((i:Int)>0) then (bif (cc:Int)==0 then h2=h2∧Value.tuple #[.int .u64 0,.int .i64 0,.int .i64 41]=ov (ci 0 0 bs) else
    (0:Int)≤wrap .i64 (7*(i:Int))∧(bif decide ((cc:Int)<128) then
   h2=h2∧Value.tuple #[.int .u64 (bq .or .u64 (acc:Int) (ft .u64 (wrap .u64 (bq .and .u8 (cc:Int) 127)) (wrap .i64 (7*(i:Int))))),.int .i64 (wrap .i64 ((i:Int)+1)),.int .i64 0]=ov (ci 0 0 bs)
   else again (bq .or .u64 (acc:Int) (ft .u64 (wrap .u64 (bq .and .u8 (cc:Int) 127)) (wrap .i64 (7*(i:Int)))),wrap .i64 ((i:Int)+1)) h2)) else
    (0:Int)≤wrap .i64 (7*(i:Int))∧(bif decide ((cc:Int)<128) then
   h2=h2∧Value.tuple #[.int .u64 (bq .or .u64 (acc:Int) (ft .u64 (wrap .u64 (bq .and .u8 (cc:Int) 127)) (wrap .i64 (7*(i:Int))))),.int .i64 (wrap .i64 ((i:Int)+1)),.int .i64 0]=ov (ci 0 0 bs)
   else again (bq .or .u64 (acc:Int) (ft .u64 (wrap .u64 (bq .and .u8 (cc:Int) 127)) (wrap .i64 (7*(i:Int)))),wrap .i64 ((i:Int)+1)) h2))∨(i=9∧1<cc):=by
  by_cases h19:i=9∧1<cc
  · exact .inr h19
  refine .inl ?_;by_cases h0:0<i
  · rw [af (show (i:Int)>0 by omega),ab];by_cases hz:cc=0
    · rw [li (show (cc:Int)=0 by omega),ab];exact ⟨rfl,(bad (.inr ⟨h0,hz⟩)).symm⟩
    · rw [jq (show ¬ (cc:Int)=0 by omega),aa];exact tail (by omega)
  · rw [ae (show ¬ (i:Int)>0 by omega),aa];exact tail (by omega)
 dsimp only
 by_cases e9:i=9
 · rw [li (show (i:Int)=9 by omega),ab];by_cases h1:1<cc
   · rw [af (show (cc:Int)>1 by omega),ab,ab];exact ⟨rfl,(bad (.inl ⟨e9,h1⟩)).symm⟩
   · rw [ae (show ¬ (cc:Int)>1 by omega),aa];exact zero.resolve_right (by omega)
 · rw [jq (show ¬ (i:Int)=9 by omega),aa];exact zero.resolve_right (by omega)
end
theorem B8.dropN {bs:List Nat} (h:B8 bs) (k:Nat):B8 (bs.drop k):=fun n hn=>h n (List.mem_of_mem_drop hn)
theorem B8.takeN {bs:List Nat} (h:B8 bs) (k:Nat):B8 (bs.take k):=fun n hn=>h n (mem_of_mem_take hn)
theorem ND {P:Program} {f:FuncId} {args:List Value} {h:Heap} {Q Q' X:Value→Heap→Prop} (H:aC P f args h Q) (hq:∀ v h',Q v h'→Q' v h'):CX P f args h X Q':=(H.mono hq).x
theorem xq {P:Program} {f:FuncId} {args:List Value} {h:Heap} {Q Q' X X':Value→Heap→Prop} (H:eS P f args h Q X) (hx:∀ v h',X v h'→X' v h') (hq:∀ v h',Q v h'→Q' v h'):CX P f args h X' Q':=H.mono hq hx
def pU:Value:=.iface 268 (.agg #[])
theorem ik {l w r:List Nat} (h:fh l=some (w,r)):w.length+r.length+1≤l.length:=by
 unfold fh at h
 split at h
 · cases h
 · rename_i n k hk;have:=jS _ _ _ _ _ hk;split at h
   · cases h
   · cases h;rw [aq,length_drop,length_drop];rw [length_drop] at *;omega
theorem vd {l r:List Nat} {p:ByteArray×ByteArray} (h:fR l=some (p,r)):r.length+2≤l.length:=by
 unfold fR at h
 split at h
 · cases h
 · rename_i a s hs;have h1:=ik hs;split at h
   · cases h
   · rename_i b t ht;have h2:=ik ht;cases h;omega
theorem nr:∀ (n:Nat) (l r:List Nat) (ps:List (ByteArray×ByteArray)),bK n l=some (ps,r)→ps.length=n∧2*n+r.length≤l.length
 | 0,l,r,ps,h=>by
   cases h;exact ⟨rfl,by omega⟩
 | n+1,l,r,ps,h=>by
   unfold bK at h;split at h
   · cases h
   · rename_i p s hs;have h1:=vd hs;split at h
     · cases h
     · rename_i qs t ht;obtain ⟨h2,h3⟩:=nr n _ _ _ ht;cases h;exact ⟨by rw [ao,h2],by omega⟩
theorem qb {n:Nat} {l:List Nat} (h:l.length<n):bK n l=none:=by
 cases hh:bK n l with
 | none=>rfl
 | some q=>
   obtain ⟨ps,r⟩:=q;have:=nr _ _ _ _ hh;omega
section
variable {F:List aG} {h:Heap}
theorem rp {rb:Nat} {bs:List Nat} (h8:B8 bs) (H:aD (dU rb bs::F) h) :
  eS prog 198 [aJ rb] h (fun v h'=>∃ n k,ci 0 0 bs=some (n,k)∧v=.int .u64 (n:Int)∧aD (dU rb (bs.drop k)::F) h') (fun x h'=>ci 0 0 bs=none∧x=pU∧aD F h'):=by
 apply DR
 unfold DU
 obtain ⟨a,c,hc,hl,H2⟩:=gM H
 rw [aY]
 refine bJ H2 rfl ?_
 refine ND (DG (c:=c) h8 hl (nB (H2.mv 1))) ?_
 rintro v h1 ⟨rfl,rfl⟩
 cases hu:ci 0 0 bs with
 | none=>
   refine ⟨0,0,41,rfl,?_⟩;rw [show ((41:Int)!=0)=true from rfl,ab];exact ⟨rfl,rfl,H2.drop.drop⟩
 | some q=>
   obtain ⟨n,k⟩:=q;have hk:=jS _ _ _ _ _ hu;refine ⟨(n:Int),(k:Int),0,rfl,?_⟩;rw [show ((0:Int)!=0)=false from rfl,aa,aY];refine bJ H2 rfl ?_;refine gn (lo:=k) (hi:=bs.length) (mx:=c) (by omega) hc (av _) ?_;rw [aY,aS];refine cd H2 (by exact Nat.zero_lt_one) rfl fun h2 H3=>?_;refine ⟨n,k,rfl,rfl,?_⟩;have e:bs.length - k=(bs.drop k).length:=by rw [length_drop]
   rw [e] at H3;refine ky (a:=gJ a k c 1) (c:=c - k) (by rw [length_drop]; omega) (by rw [length_drop]; omega) ?_;refine (fM (fun h hh=>?_) (H3.mv 1)).mv 1;have:=dw.sub hh k (bs.drop k).length c (by rw [length_drop]; omega);rw [← map_drop,ar (by rw [an]; exact av _)] at this;exact this
theorem yw {rb n:Nat} {bs:List Nat} (hn:n<18446744073709551616) (H:aD (dU rb bs::F) h) :
  eS prog 199 [aJ rb,.int .u64 (n:Int)] h (fun v h'=>n≤bs.length∧∃ a c,v=.slice a n c∧aD (qr (fun h=>dw h a ((bs.take n).map nv))::dU rb (bs.drop n)::F) h') (fun x h'=>bs.length<n∧x=pU∧aD F h'):=by
 by_cases hle:n≤bs.length
 · have hl:(bs.take n).length=n:=by rw [aq]; omega
   have H2:aD (dU rb (bs.take n++bs.drop n)::F) h:=by rw [take_append_drop]; exact H
   have:=(AZ H2).x (X:=fun x h'=>bs.length<n∧x=pU∧aD F h');rw [hl] at this;refine this.mono ?_ fun _ _ hh=>hh;rintro v h' ⟨a,c,rfl,H'⟩;exact ⟨hle,a,c,rfl,H'⟩
 · apply DN;unfold DQ;obtain ⟨a,c,hc,hl,H2⟩:=gM H;rw [aY];refine bJ H2 rfl ?_;rw [IntWalk.u64_in _ (by omega),af (show ((n:Int)>(bs.length:Int)) by omega),ab];exact ⟨by omega,rfl,H2.drop.drop⟩
theorem rt {rb:Nat} {bs:List Nat} (h8:B8 bs) (H:aD (dU rb bs::F) h) :
  eS prog 157 [aJ rb] h (fun v h'=>∃ w r,fh bs=some (w,r)∧B8 r∧v=.string (cn w)∧aD (dU rb r::F) h') (fun x h'=>fh bs=none∧x=pU∧aD F h'):=by
 apply D5
 unfold D7
 refine xq (rp h8 H) ?_ ?_
 · rintro x h1 ⟨hu,rfl,H1⟩;exact ⟨by unfold fh; rw [hu],rfl,H1⟩
 rintro v h1 ⟨n,k,hu,rfl,H1⟩
 have hn:=jR _ _ _ _ _ (by decide) (by decide) hu
 rw [aK]
 refine xq (yw hn H1) ?_ ?_
 · rintro x h2 ⟨hlt,rfl,H2⟩;exact ⟨by unfold fh; rw [hu]; simp only []; rw [al hlt],rfl,H2⟩
 rintro v h2 ⟨hle,a,c,rfl,H2⟩
 rw [aF]
 refine ⟨cn ((bs.drop k).take n),fq (nB H2) (by rw [aq]; omega) ((h8.dropN k).takeN n),?_⟩
 exact ⟨_,_,by unfold fh; rw [hu]; simp only []; rw [ak (by omega)],(h8.dropN k).dropN n,rfl,H2.drop⟩
theorem yz {cb rb:Nat} {bs:List Nat} (h8:B8 bs) (H:aD (pt cb (.cells #[aJ rb] 230 (0,0))::dU rb bs::F) h) :
  eS prog 156 [.pointer (some ⟨cb,0,none⟩)] h (fun v h'=>∃ p r,fR bs=some (p,r)∧B8 r∧v=.agg #[.string p.1,.string p.2]∧aD (pt cb (.cells #[aJ rb] 230 (0,0))::dU rb r::F) h') (fun x h'=>fR bs=none∧x=pU∧aD F h'):=by
 apply D8
 unfold Ea
 refine aQ H fun b0 h1 H1=>?_
 refine zj (H1.mv 1).get ?_
 refine zj (H1.mv 1).get ?_
 refine xq (rt h8 (H1.mv 2)) ?_ ?_
 · rintro x h2 ⟨hu,rfl,H2⟩;exact ⟨by unfold fR; rw [hu],rfl,H2.drop.drop⟩
 rintro v h2 ⟨w1,r1,hu1,hb1,rfl,H2⟩
 rw [aR]
 refine ⟨zj (H2.mv 2).get rfl,?_⟩
 refine xq (rt hb1 H2) ?_ ?_
 · rintro x h3 ⟨hu,rfl,H3⟩;exact ⟨by unfold fR; rw [hu1]; simp only []; rw [hu],rfl,H3.drop.drop⟩
 rintro v h3 ⟨w2,r2,hu2,hb2,rfl,H3⟩
 rw [aR]
 simp only [aS]
 refine dO (H3.mv 1) (by decide) (bP 2 0 (by decide)) fun h4 H4=>?_
 refine dO (i:=1) H4 (by simp) (bP 2 1 (by decide)) fun h5 H5=>?_
 have H6:aD (pt b0 (.cells #[.string (cn w1),.string (cn w2)] 50 (0,0))::dU rb r2::pt cb (.cells #[aJ rb] 230 (0,0))::F) h5:=H5
 refine ⟨.string (cn w1),by rw [bD H6.get]; rfl,?_⟩
 refine ⟨.string (cn w2),bQ (i:=1) H6 rfl,cn w1,cn w2,rfl,?_⟩
 exact ⟨(cn w1,cn w2),r2,by unfold fR; rw [hu1]; simp only []; rw [hu2],hb2,rfl,(H6.drop).mv 1⟩
def more (ps:List (ByteArray×ByteArray)):Option (List (ByteArray×ByteArray)×List Nat)→Option (List (ByteArray×ByteArray)×List Nat)
 | none=>none
 | some (qs,s)=>some (ps++qs,s)
set_option maxHeartbeats 1000000 in
theorem yA {cb rb:Nat} {bs:List Nat} (h8:B8 bs) (H:aD (pt cb (.cells #[aJ rb] 230 (0,0))::dU rb bs::F) h) :
  eS prog 155 [aJ rb,.func (.func 156) #[] #[.pointer (some ⟨cb,0,none⟩)]] h
   (fun v h'=>∃ n k ps r a c,ci 0 0 bs=some (n,k)∧bK n (bs.drop k)=some (ps,r)∧v=.slice a ps.length c∧aD (aL 50 2 a ps.length c (ps.flatMap pairC)::pt cb (.cells #[aJ rb] 230 (0,0))::dU rb r::F) h')
   (fun x h'=>(∀ n k,ci 0 0 bs=some (n,k)→bK n (bs.drop k)=none)∧x=pU∧aD F h'):=by
 apply Eb
 unfold Ed
 refine xq (rp h8 (H.mv 1)) ?_ ?_
 · rintro x h1 ⟨hu,rfl,H1⟩;refine ⟨fun n k e=>?_,rfl,H1.drop⟩;rw [hu] at e;cases e
 rintro v h1 ⟨n,k,hu,rfl,H1⟩
 have hn:=jR _ _ _ _ _ (by decide) (by decide) hu
 have hb:=h8.dropN k
 have none_of:bK n (bs.drop k)=none→∀ n' k',ci 0 0 bs=some (n',k')→bK n' (bs.drop k')=none:=fun e n' k' e2=>by
  rw [hu] at e2;cases e2;exact e
 generalize hl0:bs.drop k=l0 at H1 hb none_of
 rw [aK,aY]
 obtain ⟨a,c,hc,hl,H2⟩:=gM H1
 refine bJ H2 rfl ?_
 rw [IntWalk.u64_in _ (by omega)]
 by_cases hbig:l0.length<n
 · rw [af (show ((n:Int)>(l0.length:Int)) by omega),ab];exact ⟨none_of (qb hbig),rfl,H2.drop.drop.drop⟩
 rw [ae (show ¬ ((n:Int)>(l0.length:Int)) by omega),aa]
 refine aU.upto n (fun i (s:Sl×Int) h2=>s.2=(i:Int)∧i≤n∧∃ ps r,s.1.l=ps.length∧ps.length=i∧B8 r∧bK n l0=more ps (bK (n - i) r)∧aD (aL 50 2 s.1.a ps.length s.1.c (ps.flatMap pairC)::pt cb (.cells #[aJ rb] 230 (0,0))::dU rb r::F) h2) (fun s=>n - s.2.toNat) (fun i s h2 hh=>⟨hh.2.1,by rw [hh.1]; omega⟩)
  ⟨rfl,au _,[],l0,rfl,rfl,hb,by
   cases bK n l0 with
   | none=>rfl
   | some q=>rfl,bG 50 2 (H1.mv 1)⟩ ?_ ?_
 · rintro i ⟨⟨sa,sl,sc⟩,s2⟩ h2 again hi ⟨rfl,_,ps,r,hsl,hpl,hbr,hun,K⟩ go;dsimp only at hsl K ⊢;subst hsl;rw [af (show ((i:Int)<(n:Int)) by omega),ab];have hni:n - i=(n - (i+1))+1:=by omega
   refine tP ?_;refine xq (yz hbr (K.ordT 3 [1,2,0])) ?_ ?_
   · rintro x h3 ⟨hu3,rfl,H3⟩;refine ⟨none_of ?_,rfl,H3.drop⟩;rw [hun,hni];unfold bK;rw [hu3]
     rfl
   rintro v h3 ⟨p,r3,hu3,hb3,rfl,K3⟩;refine ⟨p.1,p.2,rfl,?_⟩;refine aQ K3 fun b0 h4 K4=>?_;refine iW zI ox oT (K4.mv 3) (n:=1) (ys:=pairC p) (bV (lm K4 rfl) rfl) (by intro u hu; simp [pairC] at hu; rcases hu with rfl | rfl <;> rfl) (by omega) fun a' c' h5 _ K5=>?_;rw [aF];have hw:wrap .u64 ((i:Int)+1)=((i+1:Nat):Int):=by rw [IntWalk.u64_in _ (by omega)]; omega
   rw [hw];refine go _ _ ⟨rfl,by omega,ps++[p],r3,by rw [am]; rfl,by rw [am,hpl]; rfl,hb3,?_,?_⟩
   · rw [hun,hni]
     conv=>lhs; unfold bK
     rw [hu3];simp only []
     cases bK (n - (i+1)) r3 with
     | none=>rfl
     | some q=>
       obtain ⟨qs,t⟩:=q;show some (ps++p::qs,t)=some (ps++[p]++qs,t);rw [append_assoc]
       rfl
   · rw [flatMap_append,am];have e:([p]:List (ByteArray×ByteArray)).flatMap pairC=pairC p:=by simp
     rw [e];exact K5.ordT 4 [0,2,3]
 · rintro ⟨⟨sa,sl,sc⟩,s2⟩ h2 again ⟨rfl,_,ps,r,hsl,hpl,hbr,hun,K⟩;dsimp only at hsl K ⊢;subst hsl;rw [ae (by omega),aa];rw [Nat.sub_self] at hun;have e:bK n l0=some (ps,r):=by
    rw [hun];show some (ps++[],r)=_;rw [append_nil]
   refine ⟨n,k,ps,r,sa,sc,hu,?_,rfl,K⟩;rw [hl0];exact e
end
theorem O3 (w:World):(Instr.typeAssert (.iface 268 (.agg #[])) 20 268 true).run prog w=.ok (.tuple #[.agg #[],.bool true]) w:=by
 have hu:prog.underlying 268=some (.struct #[]):=by kernel_rfl
 unfold Instr.typeAssert
 simp [run_underlying hu]
theorem Nh (a:Addr) (w:World):(storeCells a []).run prog w=.ok () w:=by
 unfold storeCells
 rfl
theorem AB (a b:Addr) (w:World) (u v:Value) (ha:w.cell? a=some u) (hb:w.cell? b=some v) (za:w.frozen? a=false) (zb:w.frozen? b=false) (na:a.block<w.heap.size) (nb:b.block<w.heap.size) (sa:a.spot=none) (sb:b.spot=none) (hab:a.block≠b.block) :
  CallsDIn Fence.wide 0 prog 197 #[.pointer (some a),.pointer (some b)] (.panicking [{ v:=pU,recovered:=false }]) w fun e u' w'=>e=.returned (.tuple #[])∧u'=.panicking [{ v:=pU,recovered:=true }]∧w'=((w.alloc (.cells #[] 268)).setCell a (.slice none 0 0)).setCell b (.int .i64 41):=by
 refine callsDIn_of_wpSIn Tryz.func197 rfl trivial fun c₀ cs hu=>?_
 apply wpSIn_seq
 apply wpSIn_region
 simp [wpOpsSIn,go_sem,recoverD,hu,Exit.thenS,pU]
 apply wpSIn_seq
 apply wpSIn_region
 simp [wpOpsSIn,go_sem,Exit.thenS]
 refine wpSIn_cond (t:=true) (by simp [Act.eval,Array.replicate]) ?_
 simp only [if_true]
 apply wpSIn_seq
 apply wpSIn_seq
 apply wpSIn_region
 simp [wpOpsSIn,go_sem,Exit.thenS,O3,Nh]
 apply wpSIn_seq
 apply wpSIn_region
 simp [wpOpsSIn,go_sem,Exit.thenS]
 refine wpSIn_cond (t:=false) (by simp [Act.eval,Array.replicate]) ?_
 simp only [Bool.false_eq_true,if_false]
 refine wpSIn_of_wpIn rfl (wpIn_skip ?_)
 simp only [Exit.thenS]
 apply wpSIn_region
 have e1:(w.alloc (.cells #[] 268)).cell? a=some u:=by
  rw [← ha];simp only [World.cell?,World.alloc,Array.getElem?_push,ak (show ¬ a.block=w.heap.size by omega)]
 have z1:(w.alloc (.cells #[] 268)).frozen? a=false:=by
  rw [← za];simp only [World.frozen?,World.alloc,Array.getElem?_push,ak (show ¬ a.block=w.heap.size by omega)]
 have e2:((w.alloc (.cells #[] 268)).setCell a (.slice none 0 0)).cell? b=some v:=by
  rw [← hb];simp only [World.cell?,World.setCell,World.alloc,Array.getElem?_modify,Array.getElem?_push,ak (show ¬ b.block=w.heap.size by omega),ak hab]
 have z2:((w.alloc (.cells #[] 268)).setCell a (.slice none 0 0)).frozen? b=false:=by
  rw [← zb];simp only [World.frozen?,World.setCell,World.alloc,Array.getElem?_modify,Array.getElem?_push,ak (show ¬ b.block=w.heap.size by omega),ak hab]
 simp [wpOpsSIn,go_sem,e1,z1,e2,z2,bodyPostS,results]
theorem xf {a b:Nat} {u v:Value} {F:List aG} {h:Heap} {K:Heap→Prop} (H:aD (pt a (.cells #[u] 41 (0,0))::pt b (.cells #[v] 25 (0,0))::F) h)
  (hK:∀ h',aD (pt a (.cells #[.slice none 0 0] 41 (0,0))::pt b (.cells #[.int .i64 41] 25 (0,0))::F) h'→K h'):uT prog 197 [aJ a,aJ b] pU h K:=by
 refine ⟨by kernel_rfl,fun w hw=>?_⟩
 subst hw
 have ga:=H.get
 have gb:=(H.mv 1).get
 have na:=(Array.getElem?_eq_some_iff.1 ga).1
 have nb:=(Array.getElem?_eq_some_iff.1 gb).1
 have hab:a≠b:=H.ne
 refine (AB ⟨a,0,none⟩ ⟨b,0,none⟩ w u v (by rw [cY,bD ga]; rfl) (by rw [cY,bD gb]; rfl) (by rw [fU,lG ga]; rfl) (by rw [fU,lG gb]; rfl) na nb rfl rfl hab).mono ?_
 rintro e u' w' ⟨rfl,rfl,rfl⟩
 refine ⟨⟨_,rfl⟩,rfl,?_,⟨rfl,rfl,rfl⟩⟩
 have H1:=H.push (.cells #[] 268)
 have H2:=H1.mv 1
 have s1:bI (w.heap.push (.cells #[] 268)) ⟨a,0,none⟩ (.slice none 0 0) fun h1=>bI h1 ⟨b,0,none⟩ (.int .i64 41) K:=by
  refine vq H2 fun h1 H3=>?_;refine vq (H3.mv 2) fun h2 H4=>?_;exact hK h2 (H4.ordT 3 [1,0])
 exact s1.2.2.2.2
section
variable {F:List aG} {h:Heap}
def Nq (bs:List Nat) (F:List aG) (v:Value) (h':Heap):Prop:=
 (∃ ps a c,co bs=some ps∧v=.tuple #[.slice a ps.length c,.int .i64 0]∧aD (aL 50 2 a ps.length c (ps.flatMap pairC)::F) h')∨
 (co bs=none∧v=.tuple #[.slice none 0 0,.int .i64 41]∧aD F h')
set_option maxHeartbeats 1000000 in
theorem Ez {a:Option Addr} {c:Nat} {bs:List Nat} (h8:B8 bs) (hc:bs.length≤c) (hl:bs.length≤1099511627776) (H:aD (qr (fun h=>dw h a (bs.map nv))::F) h) :
  aC prog 105 [.slice a bs.length c] h (Nq bs F):=by
 apply Hl.ap
 unfold MG
 refine aC.mono (Q:=Nq bs F) ?_ ?_
 rotate_left
 · rintro v h' (⟨ps,a',c',hu,rfl,H'⟩ | ⟨hu,rfl,H'⟩)
   · exact ⟨a',ps.length,c',0,rfl,.inl ⟨ps,a',c',hu,rfl,H'⟩⟩
   · exact ⟨none,0,0,41,rfl,.inr ⟨hu,rfl,H'⟩⟩
 apply Eh
 unfold Ej
 refine aQ H fun b1 h1 H1=>?_
 refine aQ H1 fun b2 h2 H2=>?_
 have fail:∀ {u v:Value} {x:Value} {h':Heap},co bs=none→x=pU→aD (pt b1 (.cells #[u] 41 (0,0))::pt b2 (.cells #[v] 25 (0,0))::F) h'→
   uT prog 197 [.pointer (some (Addr.mk b1 0 none)),.pointer (some (Addr.mk b2 0 none))] x h' fun h_3=>
    Ld h_3 (Addr.mk b1 0 none) fun v4=>aX v4 fun res2a res2l res2c=>Ld h_3 (Addr.mk b2 0 none) fun v5=>DI .i64 v5 fun res3=>Nq bs F (.tuple #[.slice res2a res2l res2c,.int .i64 res3]) h_3:=by
  rintro u v x h' hu rfl H';refine xf H' fun h3 H3=>?_;refine Kr H3.get ?_;refine Lp (H3.mv 1).get ?_;exact .inr ⟨hu,rfl,H3.drop.drop⟩
 dsimp only
 refine aQ H2 fun b3 h3 H3=>?_
 have H4:aD (dU b3 bs::pt b2 (.cells #[.int .i64 0] 25 (0,0))::pt b1 (.cells #[.slice none 0 0] 41 (0,0))::F) h3:=ky (a:=a) hc hl (H3.ordT 4 [0,3,1,2])
 refine tP ?_
 have C154:eS prog 154 [aJ b3] h3 (fun v h'=>∃ n k ps r a c,ci 0 0 bs=some (n,k)∧bK n (bs.drop k)=some (ps,r)∧v=.slice a ps.length c∧aD (aL 50 2 a ps.length c (ps.flatMap pairC)::dU b3 r::pt b2 (.cells #[.int .i64 0] 25 (0,0))::pt b1 (.cells #[.slice none 0 0] 41 (0,0))::F) h')
   (fun x h'=>(∀ n k,ci 0 0 bs=some (n,k)→bK n (bs.drop k)=none)∧x=pU∧aD (pt b2 (.cells #[.int .i64 0] 25 (0,0))::pt b1 (.cells #[.slice none 0 0] 41 (0,0))::F) h'):=by
  apply Ee;unfold Eg;refine aQ H4 fun b0 h5 H5=>?_;refine zj H5.get ?_;refine xq (yA h8 H5) (fun _ _ hh=>hh) ?_;rintro v h6 ⟨n,k,ps,r,a',c',hu,hp,rfl,H6⟩;rw [aF];exact ⟨n,k,ps,r,a',c',hu,hp,rfl,H6.ordT 2 [0]⟩
 refine xq C154 ?_ ?_
 · rintro x h4 ⟨hno,rfl,H5⟩;refine fail ?_ rfl (H5.mv 1);unfold co
   cases hu:ci 0 0 bs with
   | none=>rfl
   | some q=>
     obtain ⟨n,k⟩:=q;simp only [];rw [hno n k hu]
 rintro v h4 ⟨n,k,ps,r,a4,c4,hu,hp,rfl,H5⟩
 rw [aF]
 refine cd (H5.mv 3) (by exact Nat.zero_lt_one) rfl fun h5 H6=>?_
 obtain ⟨a5,c5,_,hrl,H7⟩:=gM (H6.mv 2)
 refine bJ H7 rfl ?_
 by_cases hr:0<r.length
 · rw [af (show ((r.length:Int)>0) by omega),ab];refine fail ?_ rfl (H7.ordT 5 [2,4]);unfold co;rw [hu];simp only [];rw [hp]
   cases r with
   | nil=>simp at hr
   | cons x r=>rfl
 have hr0:r=[]:=eq_nil_of_length_eq_zero (by omega)
 subst hr0
 rw [ae (show ¬ ((([]:List Nat).length:Int)>0) by decide),aa]
 by_cases hbig:16777216<bs.length
 · rw [af (show ((bs.length:Int)>16777216) by omega),ab];refine fail ?_ rfl (H7.ordT 5 [2,4]);unfold co;rw [hu];simp only [];rw [hp];simp only [];rw [ak (by omega)]
 rw [ae (show ¬ ((bs.length:Int)>16777216) by omega),aa]
 refine Kr (H7.mv 2).get ?_
 refine cd (H7.mv 2) (by exact Nat.zero_lt_one) rfl fun h6 H8=>?_
 refine cd (H8.mv 4) (by exact Nat.zero_lt_one) rfl fun h7 H9=>?_
 refine A6 ?_
 refine Kr (H9.mv 1).get ?_
 refine Lp H9.get ?_
 refine .inl ⟨ps,a4,c4,?_,rfl,H9.ordT 5 [4]⟩
 unfold co
 rw [hu]
 simp only []
 rw [hp]
 simp only []
 rw [al (by omega)]
end
end Go.Proofs.YtibdiikcigokjaaGreat
