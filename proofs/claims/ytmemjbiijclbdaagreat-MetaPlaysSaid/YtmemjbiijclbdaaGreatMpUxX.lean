/- Numbers,texts,pairs out of any bytes: plain; the program's Unnum (seat S). -/
import Derived.Test.YtmemjbiijclbdaaGreatMpMeX
import Derived.Test.YtmemjbiijclbdaaGreatMpTx
import Derived.Tactics
import Derived.Tactics2
import Derived.Defers
import Derived.Recover
import Derived.Laws.Pointers
import Derived.TacticsInMore
import Derived.RegionIn
import Derived.RecoverIn
namespace Go.Proofs.YtmemjbiijclbdaaGreat
open Go.Builtin (append_)
open Go.IntKind (wrap)
open Go.Proofs.Tryz (prog)
open List (mem_of_mem_take length_drop append_assoc drop_drop take_append_drop getElem?_map map_drop drop_zero flatMap_append append_nil length_nil eq_nil_of_length_eq_zero drop_eq_getElem_cons)
open Go Go.RowKit Go.MapKept
set_option linter.unusedVariables false
set_option linter.unusedSimpArgs false
def ci:Nat→Nat→List Nat→Option (Nat×Nat)
 | _,_,[]=>none
 | i,n,c::l=>if (i=9∧1<c)∨(0<i∧c=0) then none else if c<128 then some (n+c%128*2^(7*i),i+1) else ci (i+1) (n+c%128*2^(7*i)) l
def fA (l:List Nat):Option (List Nat×List Nat):=match ci 0 0 l with
 | none=>none
 | some (n,k)=>if (l.drop k).length<n then none else some ((l.drop k).take n,(l.drop k).drop n)
def gi (l:List Nat):Option ((ByteArray×ByteArray)×List Nat):=match fA l with
 | none=>none
 | some (a,r)=>match fA r with
   | none=>none
   | some (b,s)=>some ((bT a,bT b),s)
def bK:Nat→List Nat→Option (List (ByteArray×ByteArray)×List Nat)
 | 0,l=>some ([],l)
 | n+1,l=>match gi l with
   | none=>none
   | some (p,r)=>match bK n r with
     | none=>none
     | some (ps,s)=>some (p::ps,s)
def cI (l:List Nat):Option (List (ByteArray×ByteArray)):=match ci 0 0 l with
 | none=>none
 | some (n,k)=>match bK n (l.drop k) with
   | some (ps,[])=>if l.length≤16777216 then some ps else none
   | _=>none
theorem j5:∀ (l:List Nat) (i n m k:Nat),ci i n l=some (m,k)→i<k∧k≤i+l.length
 | [],i,n,m,k,h=>by cases h
 | c::l,i,n,m,k,h=>by
   unfold ci at h;split at h
   · cases h
   · split at h
     · cases h;exact ⟨by omega,by rw [ao]; omega⟩
     · have:=j5 l _ _ _ _ h;rw [ao];omega
theorem JG {i:Nat} (hi:i≤9):2^(7*i)≤9223372036854775808∧2^(7*(i+1))=128*2^(7*i):=by
 refine ⟨?_,by rw [Nat.mul_add,Nat.pow_add,Nat.mul_comm]⟩
 have:2^(7*i)≤2^63:=Nat.pow_le_pow_right (by decide) (by omega)
 exact this
theorem jP {acc c i:Nat} (hi:i≤9) (ha:acc<2^(7*i)) (h9:i=9→c≤1):c%128*2^(7*i)<18446744073709551616∧acc+c%128*2^(7*i)<18446744073709551616∧acc+c%128*2^(7*i)<2^(7*(i+1)):=by
 obtain ⟨p1,p2⟩:=JG hi
 have e2:c%128*2^(7*i)≤127*2^(7*i):=Nat.mul_le_mul_right _ (by omega)
 by_cases h:i=9
 · have h1:=h9 h;have e3:c%128*2^(7*i)≤1*2^(7*i):=Nat.mul_le_mul_right _ (by omega);rw [p2];omega
 · have p3:2^(7*i)≤2^56:=Nat.pow_le_pow_right (by decide) (by omega);have p4:(2:Nat)^56=72057594037927936:=by decide
   rw [p2];omega
theorem wu {acc c i:Nat} (hc:c<256) (hi:i≤9) (ha:acc<2^(7*i)) (h9:i=9→c≤1) :
  bq .or .u64 (acc:Int) (fH .u64 (wrap .u64 (bq .and .u8 (c:Int) 127)) (wrap .i64 (7*(i:Int))))=((acc+c%128*2^(7*i):Nat):Int):=by
 obtain ⟨b1,b2,b3⟩:=jP hi ha h9
 obtain ⟨p1,_⟩:=JG hi
 rw [Hq hc,IntWalk.u64_in _ (by omega)]
 have e:wrap .i64 (7*(i:Int))=((7*i:Nat):Int):=by rw [IntWalk.i64_in _ (by omega)]; omega
 rw [e,Gh (by omega) b1,LX (by omega) b1,GQ ha]
def oH:Option (Nat×Nat)→Value
 | some (n,k)=>.tuple #[.int .u64 (n:Int),.int .i64 (k:Int),.int .i64 0]
 | none=>.tuple #[.int .u64 0,.int .i64 0,.int .i64 41]
theorem j4:∀ (l:List Nat) (i n m k:Nat),i≤9→n<2^(7*i)→ci i n l=some (m,k)→m<18446744073709551616
 | [],i,n,m,k,_,_,h=>by cases h
 | c::l,i,n,m,k,hi,hn,h=>by
   unfold ci at h;split at h
   · cases h
   · rename_i hno;have h9:i=9→c≤1:=fun e=>by
      by_cases hc:1<c
      · exact absurd (.inl ⟨e,hc⟩) hno
      · omega
     obtain ⟨b1,b2,b3⟩:=jP hi hn h9;split at h
     · cases h;exact b2
     · exact j4 l _ _ _ _ (by by_cases e:i=9 <;> omega) b3 h
section
variable {F:List aE} {h:Heap}
set_option maxHeartbeats 1000000 in
set_option maxRecDepth 20000 in
theorem Dd {a:Option Addr} {c:Nat} {bs:List Nat} (h8:B8 bs) (hl:bs.length≤1099511627776) (hR:dF h a (bs.map nv)) :
  aC prog 202 [.slice a bs.length c] h fun v h'=>h'=h∧v=oH (ci 0 0 bs):=by
 apply Fc.ap
 unfold KM
 refine aZ.by (fun s h2=>h2=h∧∃ (i acc:Nat),s=((acc:Int),(i:Int))∧i≤bs.length∧i≤9+1∧(i≤9∨False)∧acc<2^(7*i)∧ci 0 0 bs=ci i acc (bs.drop i)) (fun s=>10 - s.2.toNat) ⟨rfl,0,0,rfl,au _,by decide,.inl (by decide),by decide,rfl⟩ ?_
 rintro s h2 again ⟨rfl,i,acc,rfl,hi,_,h99,ha,hg⟩ go
 have hi9:i≤9:=h99.resolve_right id
 dsimp only
 by_cases hil:i<bs.length
 rotate_left
 · rw [ae (show ¬ ((i:Int)<(bs.length:Int)) by omega),aa];refine ⟨rfl,?_⟩;rw [hg,List.drop_of_length_le (by omega)]
   rfl
 rw [af (show ((i:Int)<(bs.length:Int)) by omega),ab]
 obtain ⟨cc,hcc⟩:∃ x,bs[i]? = some x:=⟨_,ah hil⟩
 have hc8:cc<256:=h8 _ (ai hcc)
 have hdrop:bs.drop i=cc::bs.drop (i+1):=by
  rw [drop_eq_getElem_cons hil];rw [ah hil] at hcc;rw [Option.some.inj hcc]
 rw [hdrop] at hg
 refine cf hR (by rw [an]) (by rw [getElem?_map,hcc]; rfl) fun b hb hcell=>⟨nv cc,hcell,(cc:Int),rfl,?_⟩
 have hwr:wrap .i64 ((i:Int)+1)=((i+1:Nat):Int):=by rw [IntWalk.i64_in _ (by omega)]; omega
 have h7:(0:Int)≤wrap .i64 (7*(i:Int)):=by rw [IntWalk.i64_in _ (by omega)]; omega
 have bad:((i=9∧1<cc)∨(0<i∧cc=0))→oH (ci 0 0 bs)=.tuple #[.int .u64 0,.int .i64 0,.int .i64 41]:=fun hb=>by
  rw [hg];unfold ci;rw [al hb]
  rfl
 have tail:¬ ((i=9∧1<cc)∨(0<i∧cc=0))→(0:Int)≤wrap .i64 (7*(i:Int))∧(bif decide ((cc:Int)<128) then
   h2=h2∧Value.tuple #[.int .u64 (bq .or .u64 (acc:Int) (fH .u64 (wrap .u64 (bq .and .u8 (cc:Int) 127)) (wrap .i64 (7*(i:Int))))),.int .i64 (wrap .i64 ((i:Int)+1)),.int .i64 0]=oH (ci 0 0 bs)
   else again (bq .or .u64 (acc:Int) (fH .u64 (wrap .u64 (bq .and .u8 (cc:Int) 127)) (wrap .i64 (7*(i:Int)))),wrap .i64 ((i:Int)+1)) h2):=fun hno=>by
  have h9:i=9→cc≤1:=fun e=>by
   by_cases hc:1<cc
   · exact absurd (.inl ⟨e,hc⟩) hno
   · omega
  obtain ⟨b1,b2,b3⟩:=jP hi9 ha h9;refine ⟨h7,?_⟩;rw [wu hc8 hi9 ha h9,hwr]
  conv at hg=>rhs; unfold ci
  rw [ak hno] at hg;by_cases hlt:cc<128
  · rw [af (show (cc:Int)<128 by omega),ab];rw [al hlt] at hg;exact ⟨rfl,by rw [hg]; rfl⟩
  · rw [ae (show ¬ (cc:Int)<128 by omega),aa];rw [ak hlt] at hg;have hi8:i≤8:=by by_cases e:i=9 <;> omega
    exact go _ _ ⟨rfl,i+1,_,rfl,by omega,by omega,.inl (by omega),b3,hg⟩ (by simp only [Int.toNat_natCast]; omega)
 have zero:(bif decide ((i:Int)>0) then (bif (cc:Int)==0 then h2=h2∧Value.tuple #[.int .u64 0,.int .i64 0,.int .i64 41]=oH (ci 0 0 bs) else
    (0:Int)≤wrap .i64 (7*(i:Int))∧(bif decide ((cc:Int)<128) then
   h2=h2∧Value.tuple #[.int .u64 (bq .or .u64 (acc:Int) (fH .u64 (wrap .u64 (bq .and .u8 (cc:Int) 127)) (wrap .i64 (7*(i:Int))))),.int .i64 (wrap .i64 ((i:Int)+1)),.int .i64 0]=oH (ci 0 0 bs)
   else again (bq .or .u64 (acc:Int) (fH .u64 (wrap .u64 (bq .and .u8 (cc:Int) 127)) (wrap .i64 (7*(i:Int)))),wrap .i64 ((i:Int)+1)) h2)) else
    (0:Int)≤wrap .i64 (7*(i:Int))∧(bif decide ((cc:Int)<128) then
   h2=h2∧Value.tuple #[.int .u64 (bq .or .u64 (acc:Int) (fH .u64 (wrap .u64 (bq .and .u8 (cc:Int) 127)) (wrap .i64 (7*(i:Int))))),.int .i64 (wrap .i64 ((i:Int)+1)),.int .i64 0]=oH (ci 0 0 bs)
   else again (bq .or .u64 (acc:Int) (fH .u64 (wrap .u64 (bq .and .u8 (cc:Int) 127)) (wrap .i64 (7*(i:Int)))),wrap .i64 ((i:Int)+1)) h2))∨(i=9∧1<cc):=by
  by_cases h19:i=9∧1<cc
  · exact .inr h19
  refine .inl ?_;by_cases h0:0<i
  · rw [af (show (i:Int)>0 by omega),ab];by_cases hz:cc=0
    · rw [jX (show (cc:Int)=0 by omega),ab];exact ⟨rfl,(bad (.inr ⟨h0,hz⟩)).symm⟩
    · rw [iW (show ¬ (cc:Int)=0 by omega),aa];exact tail (by omega)
  · rw [ae (show ¬ (i:Int)>0 by omega),aa];exact tail (by omega)
 dsimp only
 by_cases e9:i=9
 · rw [jX (show (i:Int)=9 by omega),ab];by_cases h1:1<cc
   · rw [af (show (cc:Int)>1 by omega),ab,ab];exact ⟨rfl,(bad (.inl ⟨e9,h1⟩)).symm⟩
   · rw [ae (show ¬ (cc:Int)>1 by omega),aa];exact zero.resolve_right (by omega)
 · rw [iW (show ¬ (i:Int)=9 by omega),aa];exact zero.resolve_right (by omega)
end
theorem B8.dropN {bs:List Nat} (h:B8 bs) (k:Nat):B8 (bs.drop k):=fun n hn=>h n (List.mem_of_mem_drop hn)
theorem B8.takeN {bs:List Nat} (h:B8 bs) (k:Nat):B8 (bs.take k):=fun n hn=>h n (mem_of_mem_take hn)
theorem Mf {P:Program} {f:FuncId} {args:List Value} {h:Heap} {Q Q' X:Value→Heap→Prop} (H:aC P f args h Q) (hq:∀ v h',Q v h'→Q' v h'):CX P f args h X Q':=(H.mono hq).x
theorem xg {P:Program} {f:FuncId} {args:List Value} {h:Heap} {Q Q' X X':Value→Heap→Prop} (H:fi P f args h Q X) (hx:∀ v h',X v h'→X' v h') (hq:∀ v h',Q v h'→Q' v h'):CX P f args h X' Q':=H.mono hq hx
def pX:Value:=.iface 246 (.agg #[])
theorem iw {l w r:List Nat} (h:fA l=some (w,r)):w.length+r.length+1≤l.length:=by
 unfold fA at h
 split at h
 · cases h
 · rename_i n k hk;have:=j5 _ _ _ _ _ hk;split at h
   · cases h
   · cases h;rw [aq,length_drop,length_drop];rw [length_drop] at *;omega
theorem vn {l r:List Nat} {p:ByteArray×ByteArray} (h:gi l=some (p,r)):r.length+2≤l.length:=by
 unfold gi at h
 split at h
 · cases h
 · rename_i a s hs;have h1:=iw hs;split at h
   · cases h
   · rename_i b t ht;have h2:=iw ht;cases h;omega
theorem nF:∀ (n:Nat) (l r:List Nat) (ps:List (ByteArray×ByteArray)),bK n l=some (ps,r)→ps.length=n∧2*n+r.length≤l.length
 | 0,l,r,ps,h=>by
   cases h;exact ⟨rfl,by omega⟩
 | n+1,l,r,ps,h=>by
   unfold bK at h;split at h
   · cases h
   · rename_i p s hs;have h1:=vn hs;split at h
     · cases h
     · rename_i qs t ht;obtain ⟨h2,h3⟩:=nF n _ _ _ ht;cases h;exact ⟨by rw [ao,h2],by omega⟩
theorem qj {n:Nat} {l:List Nat} (h:l.length<n):bK n l=none:=by
 cases hh:bK n l with
 | none=>rfl
 | some q=>
   obtain ⟨ps,r⟩:=q;have:=nF _ _ _ _ hh;omega
section
variable {F:List aE} {h:Heap}
theorem rN {rb:Nat} {bs:List Nat} (h8:B8 bs) (H:aD (dZ rb bs::F) h) :
  fi prog 183 [aI rb] h (fun v h'=>∃ n k,ci 0 0 bs=some (n,k)∧v=.int .u64 (n:Int)∧aD (dZ rb (bs.drop k)::F) h') (fun x h'=>ci 0 0 bs=none∧x=pX∧aD F h'):=by
 apply Di
 unfold Dk
 obtain ⟨a,c,hc,hl,H2⟩:=gR H
 rw [aP]
 refine bH H2 rfl ?_
 refine Mf (Dd (c:=c) h8 hl (eV (H2.mv 1))) ?_
 rintro v h1 ⟨rfl,rfl⟩
 cases hu:ci 0 0 bs with
 | none=>
   refine ⟨0,0,41,rfl,?_⟩;rw [show ((41:Int)!=0)=true from rfl,ab];exact ⟨rfl,rfl,H2.drop.drop⟩
 | some q=>
   obtain ⟨n,k⟩:=q;have hk:=j5 _ _ _ _ _ hu;refine ⟨(n:Int),(k:Int),0,rfl,?_⟩;rw [show ((0:Int)!=0)=false from rfl,aa,aP];refine bH H2 rfl ?_;refine ir (lo:=k) (hi:=bs.length) (mx:=c) (by omega) hc (av _) ?_;rw [aP,aV];refine bQ H2 (by exact Nat.zero_lt_one) rfl fun h2 H3=>?_;refine ⟨n,k,rfl,rfl,?_⟩;have e:bs.length - k=(bs.drop k).length:=by rw [length_drop]
   rw [e] at H3;refine kN (a:=jB a k c 1) (c:=c - k) (by rw [length_drop]; omega) (by rw [length_drop]; omega) ?_;refine (dX (fun h hh=>?_) (H3.mv 1)).mv 1;have:=dF.sub hh k (bs.drop k).length c (by rw [length_drop]; omega);rw [← map_drop,ar (by rw [an]; exact av _)] at this;exact this
theorem yg {rb n:Nat} {bs:List Nat} (hn:n<18446744073709551616) (H:aD (dZ rb bs::F) h) :
  fi prog 184 [aI rb,.int .u64 (n:Int)] h (fun v h'=>n≤bs.length∧∃ a c,v=.slice a n c∧aD (kh (fun h=>dF h a ((bs.take n).map nv))::dZ rb (bs.drop n)::F) h') (fun x h'=>bs.length<n∧x=pX∧aD F h'):=by
 by_cases hle:n≤bs.length
 · have hl:(bs.take n).length=n:=by rw [aq]; omega
   have H2:aD (dZ rb (bs.take n++bs.drop n)::F) h:=by rw [take_append_drop]; exact H
   have:=(An H2).x (X:=fun x h'=>bs.length<n∧x=pX∧aD F h');rw [hl] at this;refine this.mono ?_ fun _ _ hh=>hh;rintro v h' ⟨a,c,rfl,H'⟩;exact ⟨hle,a,c,rfl,H'⟩
 · apply Df;unfold Dh;obtain ⟨a,c,hc,hl,H2⟩:=gR H;rw [aP];refine bH H2 rfl ?_;rw [IntWalk.u64_in _ (by omega),af (show ((n:Int)>(bs.length:Int)) by omega),ab];exact ⟨by omega,rfl,H2.drop.drop⟩
theorem rO {rb:Nat} {bs:List Nat} (h8:B8 bs) (H:aD (dZ rb bs::F) h) :
  fi prog 148 [aI rb] h (fun v h'=>∃ w r,fA bs=some (w,r)∧B8 r∧v=.string (bT w)∧aD (dZ rb r::F) h') (fun x h'=>fA bs=none∧x=pX∧aD F h'):=by
 apply Dt
 unfold Dv
 refine xg (rN h8 H) ?_ ?_
 · rintro x h1 ⟨hu,rfl,H1⟩;exact ⟨by unfold fA; rw [hu],rfl,H1⟩
 rintro v h1 ⟨n,k,hu,rfl,H1⟩
 have hn:=j4 _ _ _ _ _ (by decide) (by decide) hu
 rw [aJ]
 refine xg (yg hn H1) ?_ ?_
 · rintro x h2 ⟨hlt,rfl,H2⟩;exact ⟨by unfold fA; rw [hu]; simp only []; rw [al hlt],rfl,H2⟩
 rintro v h2 ⟨hle,a,c,rfl,H2⟩
 rw [aF]
 refine ⟨bT ((bs.drop k).take n),ct (eV H2) (by rw [aq]; omega) ((h8.dropN k).takeN n),?_⟩
 exact ⟨_,_,by unfold fA; rw [hu]; simp only []; rw [ak (by omega)],(h8.dropN k).dropN n,rfl,H2.drop⟩
theorem yi {cb rb:Nat} {bs:List Nat} (h8:B8 bs) (H:aD (pt cb (.cells #[aI rb] 219 (0,0))::dZ rb bs::F) h) :
  fi prog 147 [.pointer (some ⟨cb,0,none⟩)] h (fun v h'=>∃ p r,gi bs=some (p,r)∧B8 r∧v=.agg #[.string p.1,.string p.2]∧aD (pt cb (.cells #[aI rb] 219 (0,0))::dZ rb r::F) h') (fun x h'=>gi bs=none∧x=pX∧aD F h'):=by
 apply Dw
 unfold Dy
 refine aQ H fun b0 h1 H1=>?_
 refine lm (H1.mv 1).get ?_
 refine lm (H1.mv 1).get ?_
 refine xg (rO h8 (H1.mv 2)) ?_ ?_
 · rintro x h2 ⟨hu,rfl,H2⟩;exact ⟨by unfold gi; rw [hu],rfl,H2.drop.drop⟩
 rintro v h2 ⟨w1,r1,hu1,hb1,rfl,H2⟩
 rw [aW]
 refine ⟨lm (H2.mv 2).get rfl,?_⟩
 refine xg (rO hb1 H2) ?_ ?_
 · rintro x h3 ⟨hu,rfl,H3⟩;exact ⟨by unfold gi; rw [hu1]; simp only []; rw [hu],rfl,H3.drop.drop⟩
 rintro v h3 ⟨w2,r2,hu2,hb2,rfl,H3⟩
 rw [aW]
 simp only [aV]
 refine dK (H3.mv 1) (by decide) (bO 2 0 (by decide)) fun h4 H4=>?_
 refine dK (i:=1) H4 (by simp) (bO 2 1 (by decide)) fun h5 H5=>?_
 have H6:aD (pt b0 (.cells #[.string (bT w1),.string (bT w2)] 98 (0,0))::dZ rb r2::pt cb (.cells #[aI rb] 219 (0,0))::F) h5:=H5
 refine ⟨.string (bT w1),by rw [bj H6.get]; rfl,?_⟩
 refine ⟨.string (bT w2),bZ (i:=1) H6 rfl,bT w1,bT w2,rfl,?_⟩
 exact ⟨(bT w1,bT w2),r2,by unfold gi; rw [hu1]; simp only []; rw [hu2],hb2,rfl,(H6.drop).mv 1⟩
def more (ps:List (ByteArray×ByteArray)):Option (List (ByteArray×ByteArray)×List Nat)→Option (List (ByteArray×ByteArray)×List Nat)
 | none=>none
 | some (qs,s)=>some (ps++qs,s)
set_option maxHeartbeats 1000000 in
theorem yj {cb rb:Nat} {bs:List Nat} (h8:B8 bs) (H:aD (pt cb (.cells #[aI rb] 219 (0,0))::dZ rb bs::F) h) :
  fi prog 146 [aI rb,.func (.func 147) #[] #[.pointer (some ⟨cb,0,none⟩)]] h
   (fun v h'=>∃ n k ps r a c,ci 0 0 bs=some (n,k)∧bK n (bs.drop k)=some (ps,r)∧v=.slice a ps.length c∧aD (aL 98 2 a ps.length c (ps.flatMap bV)::pt cb (.cells #[aI rb] 219 (0,0))::dZ rb r::F) h')
   (fun x h'=>(∀ n k,ci 0 0 bs=some (n,k)→bK n (bs.drop k)=none)∧x=pX∧aD F h'):=by
 apply Dz
 unfold DC
 refine xg (rN h8 (H.mv 1)) ?_ ?_
 · rintro x h1 ⟨hu,rfl,H1⟩;refine ⟨fun n k e=>?_,rfl,H1.drop⟩;rw [hu] at e;cases e
 rintro v h1 ⟨n,k,hu,rfl,H1⟩
 have hn:=j4 _ _ _ _ _ (by decide) (by decide) hu
 have hb:=h8.dropN k
 have none_of:bK n (bs.drop k)=none→∀ n' k',ci 0 0 bs=some (n',k')→bK n' (bs.drop k')=none:=fun e n' k' e2=>by
  rw [hu] at e2;cases e2;exact e
 generalize hl0:bs.drop k=l0 at H1 hb none_of
 rw [aJ,aP]
 obtain ⟨a,c,hc,hl,H2⟩:=gR H1
 refine bH H2 rfl ?_
 rw [IntWalk.u64_in _ (by omega)]
 by_cases hbig:l0.length<n
 · rw [af (show ((n:Int)>(l0.length:Int)) by omega),ab];exact ⟨none_of (qj hbig),rfl,H2.drop.drop.drop⟩
 rw [ae (show ¬ ((n:Int)>(l0.length:Int)) by omega),aa]
 refine aZ.upto n (fun i (s:Sl×Int) h2=>s.2=(i:Int)∧i≤n∧∃ ps r,s.1.l=ps.length∧ps.length=i∧B8 r∧bK n l0=more ps (bK (n - i) r)∧aD (aL 98 2 s.1.a ps.length s.1.c (ps.flatMap bV)::pt cb (.cells #[aI rb] 219 (0,0))::dZ rb r::F) h2) (fun s=>n - s.2.toNat) (fun i s h2 hh=>⟨hh.2.1,by rw [hh.1]; omega⟩)
  ⟨rfl,au _,[],l0,rfl,rfl,hb,by
   cases bK n l0 with
   | none=>rfl
   | some q=>rfl,bE 98 2 (H1.mv 1)⟩ ?_ ?_
 · rintro i ⟨⟨sa,sl,sc⟩,s2⟩ h2 again hi ⟨rfl,_,ps,r,hsl,hpl,hbr,hun,K⟩ go;dsimp only at hsl K ⊢;subst hsl;rw [af (show ((i:Int)<(n:Int)) by omega),ab];have hni:n - i=(n - (i+1))+1:=by omega
   refine tV ?_;refine xg (yi hbr (K.ordT 3 [1,2,0])) ?_ ?_
   · rintro x h3 ⟨hu3,rfl,H3⟩;refine ⟨none_of ?_,rfl,H3.drop⟩;rw [hun,hni];unfold bK;rw [hu3]
     rfl
   rintro v h3 ⟨p,r3,hu3,hb3,rfl,K3⟩;refine ⟨p.1,p.2,rfl,?_⟩;refine aQ K3 fun b0 h4 K4=>?_;refine jR D3 uf uA (K4.mv 3) (n:=1) (ys:=bV p) (ce (ln K4 rfl) rfl) (by intro u hu; simp [bV] at hu; rcases hu with rfl | rfl <;> rfl) (by omega) fun a' c' h5 _ K5=>?_;rw [aF];have hw:wrap .u64 ((i:Int)+1)=((i+1:Nat):Int):=by rw [IntWalk.u64_in _ (by omega)]; omega
   rw [hw];refine go _ _ ⟨rfl,by omega,ps++[p],r3,by rw [am]; rfl,by rw [am,hpl]; rfl,hb3,?_,?_⟩
   · rw [hun,hni]
     conv=>lhs; unfold bK
     rw [hu3];simp only []
     cases bK (n - (i+1)) r3 with
     | none=>rfl
     | some q=>
       obtain ⟨qs,t⟩:=q;show some (ps++p::qs,t)=some (ps++[p]++qs,t);rw [append_assoc]
       rfl
   · rw [flatMap_append,am];have e:([p]:List (ByteArray×ByteArray)).flatMap bV=bV p:=by simp
     rw [e];exact K5.ordT 4 [0,2,3]
 · rintro ⟨⟨sa,sl,sc⟩,s2⟩ h2 again ⟨rfl,_,ps,r,hsl,hpl,hbr,hun,K⟩;dsimp only at hsl K ⊢;subst hsl;rw [ae (by omega),aa];rw [Nat.sub_self] at hun;have e:bK n l0=some (ps,r):=by
    rw [hun];show some (ps++[],r)=_;rw [append_nil]
   refine ⟨n,k,ps,r,sa,sc,hu,?_,rfl,K⟩;rw [hl0];exact e
end
theorem NF (w:World):(Instr.typeAssert (.iface 246 (.agg #[])) 20 246 true).run prog w=.ok (.tuple #[.agg #[],.bool true]) w:=by
 have hu:prog.underlying 246=some (.struct #[]):=by kernel_rfl
 unfold Instr.typeAssert
 simp [run_underlying hu]
theorem L1 (a:Addr) (w:World):(storeCells a []).run prog w=.ok () w:=by
 unfold storeCells
 rfl
theorem z7 (a b:Addr) (w:World) (u v:Value) (ha:w.cell? a=some u) (hb:w.cell? b=some v) (za:w.frozen? a=false) (zb:w.frozen? b=false) (na:a.block<w.heap.size) (nb:b.block<w.heap.size) (sa:a.spot=none) (sb:b.spot=none) (hab:a.block≠b.block) :
  CallsDIn Fence.wide 0 prog 182 #[.pointer (some a),.pointer (some b)] (.panicking [{ v:=pX,recovered:=false }]) w fun e u' w'=>e=.returned (.tuple #[])∧u'=.panicking [{ v:=pX,recovered:=true }]∧w'=((w.alloc (.cells #[] 246)).setCell a (.slice none 0 0)).setCell b (.int .i64 41):=by
 refine callsDIn_of_wpSIn Tryz.func182 rfl trivial fun c₀ cs hu=>?_
 apply wpSIn_seq
 apply wpSIn_region
 simp [wpOpsSIn,go_sem,recoverD,hu,Exit.thenS,pX]
 apply wpSIn_seq
 apply wpSIn_region
 simp [wpOpsSIn,go_sem,Exit.thenS]
 refine wpSIn_cond (t:=true) (by simp [Act.eval,Array.replicate]) ?_
 simp only [if_true]
 apply wpSIn_seq
 apply wpSIn_seq
 apply wpSIn_region
 simp [wpOpsSIn,go_sem,Exit.thenS,NF,L1]
 apply wpSIn_seq
 apply wpSIn_region
 simp [wpOpsSIn,go_sem,Exit.thenS]
 refine wpSIn_cond (t:=false) (by simp [Act.eval,Array.replicate]) ?_
 simp only [Bool.false_eq_true,if_false]
 refine wpSIn_of_wpIn rfl (wpIn_skip ?_)
 simp only [Exit.thenS]
 apply wpSIn_region
 have e1:(w.alloc (.cells #[] 246)).cell? a=some u:=by
  rw [← ha];simp only [World.cell?,World.alloc,Array.getElem?_push,ak (show ¬ a.block=w.heap.size by omega)]
 have z1:(w.alloc (.cells #[] 246)).frozen? a=false:=by
  rw [← za];simp only [World.frozen?,World.alloc,Array.getElem?_push,ak (show ¬ a.block=w.heap.size by omega)]
 have e2:((w.alloc (.cells #[] 246)).setCell a (.slice none 0 0)).cell? b=some v:=by
  rw [← hb];simp only [World.cell?,World.setCell,World.alloc,Array.getElem?_modify,Array.getElem?_push,ak (show ¬ b.block=w.heap.size by omega),ak hab]
 have z2:((w.alloc (.cells #[] 246)).setCell a (.slice none 0 0)).frozen? b=false:=by
  rw [← zb];simp only [World.frozen?,World.setCell,World.alloc,Array.getElem?_modify,Array.getElem?_push,ak (show ¬ b.block=w.heap.size by omega),ak hab]
 simp [wpOpsSIn,go_sem,e1,z1,e2,z2,bodyPostS,results]
theorem wZ {a b:Nat} {u v:Value} {F:List aE} {h:Heap} {K:Heap→Prop} (H:aD (pt a (.cells #[u] 96 (0,0))::pt b (.cells #[v] 24 (0,0))::F) h)
  (hK:∀ h',aD (pt a (.cells #[.slice none 0 0] 96 (0,0))::pt b (.cells #[.int .i64 41] 24 (0,0))::F) h'→K h'):uW prog 182 [aI a,aI b] pX h K:=by
 refine ⟨by kernel_rfl,fun w hw=>?_⟩
 subst hw
 have ga:=H.get
 have gb:=(H.mv 1).get
 have na:=(Array.getElem?_eq_some_iff.1 ga).1
 have nb:=(Array.getElem?_eq_some_iff.1 gb).1
 have hab:a≠b:=H.ne
 refine (z7 ⟨a,0,none⟩ ⟨b,0,none⟩ w u v (by rw [dR,bj ga]; rfl) (by rw [dR,bj gb]; rfl) (by rw [gV,lM ga]; rfl) (by rw [gV,lM gb]; rfl) na nb rfl rfl hab).mono ?_
 rintro e u' w' ⟨rfl,rfl,rfl⟩
 refine ⟨⟨_,rfl⟩,rfl,?_,⟨rfl,rfl,rfl⟩⟩
 have H1:=H.push (.cells #[] 246)
 have H2:=H1.mv 1
 have s1:bz (w.heap.push (.cells #[] 246)) ⟨a,0,none⟩ (.slice none 0 0) fun h1=>bz h1 ⟨b,0,none⟩ (.int .i64 41) K:=by
  refine ud H2 fun h1 H3=>?_;refine ud (H3.mv 2) fun h2 H4=>?_;exact hK h2 (H4.ordT 3 [1,0])
 exact s1.2.2.2.2
section
variable {F:List aE} {h:Heap}
def L8 (bs:List Nat) (F:List aE) (v:Value) (h':Heap):Prop:=
 (∃ ps a c,cI bs=some ps∧v=.tuple #[.slice a ps.length c,.int .i64 0]∧aD (aL 98 2 a ps.length c (ps.flatMap bV)::F) h')∨
 (cI bs=none∧v=.tuple #[.slice none 0 0,.int .i64 41]∧aD F h')
set_option maxHeartbeats 1000000 in
theorem EN {a:Option Addr} {c:Nat} {bs:List Nat} (h8:B8 bs) (hc:bs.length≤c) (hl:bs.length≤1099511627776) (H:aD (kh (fun h=>dF h a (bs.map nv))::F) h) :
  aC prog 97 [.slice a bs.length c] h (L8 bs F):=by
 apply Hv.ap
 unfold Mn
 refine aC.mono (Q:=L8 bs F) ?_ ?_
 rotate_left
 · rintro v h' (⟨ps,a',c',hu,rfl,H'⟩ | ⟨hu,rfl,H'⟩)
   · exact ⟨a',ps.length,c',0,rfl,.inl ⟨ps,a',c',hu,rfl,H'⟩⟩
   · exact ⟨none,0,0,41,rfl,.inr ⟨hu,rfl,H'⟩⟩
 apply DG
 unfold DJ
 refine aQ H fun b1 h1 H1=>?_
 refine aQ H1 fun b2 h2 H2=>?_
 have fail:∀ {u v:Value} {x:Value} {h':Heap},cI bs=none→x=pX→aD (pt b1 (.cells #[u] 96 (0,0))::pt b2 (.cells #[v] 24 (0,0))::F) h'→
   uW prog 182 [.pointer (some (Addr.mk b1 0 none)),.pointer (some (Addr.mk b2 0 none))] x h' fun h_3=>
    Ld h_3 (Addr.mk b1 0 none) fun v4=>aT v4 fun res2a res2l res2c=>Ld h_3 (Addr.mk b2 0 none) fun v5=>DI .i64 v5 fun res3=>L8 bs F (.tuple #[.slice res2a res2l res2c,.int .i64 res3]) h_3:=by
  rintro u v x h' hu rfl H';refine wZ H' fun h3 H3=>?_;refine xh H3.get ?_;refine pS (H3.mv 1).get ?_;exact .inr ⟨hu,rfl,H3.drop.drop⟩
 dsimp only
 refine aQ H2 fun b3 h3 H3=>?_
 have H4:aD (dZ b3 bs::pt b2 (.cells #[.int .i64 0] 24 (0,0))::pt b1 (.cells #[.slice none 0 0] 96 (0,0))::F) h3:=kN (a:=a) hc hl (H3.ordT 4 [0,3,1,2])
 refine tV ?_
 have C154:fi prog 145 [aI b3] h3 (fun v h'=>∃ n k ps r a c,ci 0 0 bs=some (n,k)∧bK n (bs.drop k)=some (ps,r)∧v=.slice a ps.length c∧aD (aL 98 2 a ps.length c (ps.flatMap bV)::dZ b3 r::pt b2 (.cells #[.int .i64 0] 24 (0,0))::pt b1 (.cells #[.slice none 0 0] 96 (0,0))::F) h')
   (fun x h'=>(∀ n k,ci 0 0 bs=some (n,k)→bK n (bs.drop k)=none)∧x=pX∧aD (pt b2 (.cells #[.int .i64 0] 24 (0,0))::pt b1 (.cells #[.slice none 0 0] 96 (0,0))::F) h'):=by
  apply DD;unfold DF;refine aQ H4 fun b0 h5 H5=>?_;refine lm H5.get ?_;refine xg (yj h8 H5) (fun _ _ hh=>hh) ?_;rintro v h6 ⟨n,k,ps,r,a',c',hu,hp,rfl,H6⟩;rw [aF];exact ⟨n,k,ps,r,a',c',hu,hp,rfl,H6.ordT 2 [0]⟩
 refine xg C154 ?_ ?_
 · rintro x h4 ⟨hno,rfl,H5⟩;refine fail ?_ rfl (H5.mv 1);unfold cI
   cases hu:ci 0 0 bs with
   | none=>rfl
   | some q=>
     obtain ⟨n,k⟩:=q;simp only [];rw [hno n k hu]
 rintro v h4 ⟨n,k,ps,r,a4,c4,hu,hp,rfl,H5⟩
 rw [aF]
 refine bQ (H5.mv 3) (by exact Nat.zero_lt_one) rfl fun h5 H6=>?_
 obtain ⟨a5,c5,_,hrl,H7⟩:=gR (H6.mv 2)
 refine bH H7 rfl ?_
 by_cases hr:0<r.length
 · rw [af (show ((r.length:Int)>0) by omega),ab];refine fail ?_ rfl (H7.ordT 5 [2,4]);unfold cI;rw [hu];simp only [];rw [hp]
   cases r with
   | nil=>simp at hr
   | cons x r=>rfl
 have hr0:r=[]:=eq_nil_of_length_eq_zero (by omega)
 subst hr0
 rw [ae (show ¬ ((([]:List Nat).length:Int)>0) by decide),aa]
 by_cases hbig:16777216<bs.length
 · rw [af (show ((bs.length:Int)>16777216) by omega),ab];refine fail ?_ rfl (H7.ordT 5 [2,4]);unfold cI;rw [hu];simp only [];rw [hp];simp only [];rw [ak (by omega)]
 rw [ae (show ¬ ((bs.length:Int)>16777216) by omega),aa]
 refine xh (H7.mv 2).get ?_
 refine bQ (H7.mv 2) (by exact Nat.zero_lt_one) rfl fun h6 H8=>?_
 refine bQ (H8.mv 4) (by exact Nat.zero_lt_one) rfl fun h7 H9=>?_
 refine Ao ?_
 refine xh (H9.mv 1).get ?_
 refine pS H9.get ?_
 refine .inl ⟨ps,a4,c4,?_,rfl,H9.ordT 5 [4]⟩
 unfold cI
 rw [hu]
 simp only []
 rw [hp]
 simp only []
 rw [al (by omega)]
end
abbrev Jw:=List (ByteArray×ByteArray)
def GF (a:Nat):Option (Nat×Nat)→Value
 | some (n,k)=>.tuple #[.int .u64 (n:Int),.int .i64 ((a+k:Nat):Int)]
 | none=>.tuple #[.int .u64 0,.int .i64 (-1)]
def A7 (s:ByteArray):Option (List Nat×List Nat)→Value
 | some (w,r)=>.tuple #[.string (bT w),.int .i64 ((s.size - r.length:Nat):Int)]
 | none=>.tuple #[.string .empty,.int .i64 (-1)]
section
variable {F:List aE} {h:Heap}
theorem Dr {s:ByteArray}:aC prog 169 [.string s,.int .i64 (-1)] h fun v h'=>h'=h∧v=GF 0 none:=by
 apply y8.ap
 unfold IU
 refine aZ.by (fun st h2=>h2=h∧st=((0:Int),(0:Int))) (fun _=>0) ⟨rfl,rfl⟩ ?_
 rintro st h2 again ⟨rfl,rfl⟩ go
 dsimp only
 rw [show decide ((0:Int)<10)=true from rfl,ab,show decide ((-1:Int)<0)=true from rfl,ab]
 exact ⟨rfl,rfl⟩
set_option maxHeartbeats 1000000 in
set_option maxRecDepth 20000 in
theorem tH {s:ByteArray} {p:Nat} (hs:s.size≤1099511627776) (hp:p≤s.size):aC prog 169 [.string s,.int .i64 (p:Int)] h fun v h'=>h'=h∧v=GF p (ci 0 0 ((sb s).drop p)):=by
 have hsl:=bd s
 have h8:=fT s
 apply y8.ap
 unfold IU
 refine aZ.by (fun st h2=>h2=h∧∃ (i acc:Nat),st=((acc:Int),(i:Int))∧p+i≤s.size∧(i≤9∨False)∧acc<2^(7*i)∧ci 0 0 ((sb s).drop p)=ci i acc ((sb s).drop (p+i))) (fun st=>10 - st.2.toNat) ⟨rfl,0,0,rfl,hp,.inl (by decide),by decide,rfl⟩ ?_
 rintro st h2 again ⟨rfl,i,acc,rfl,hi,h99,ha,hg⟩ go
 have hi9:i≤9:=h99.resolve_right id
 dsimp only
 rw [af (show (i:Int)<10 by omega),ab,ae (show ¬ (p:Int)<0 by omega),aa]
 have e1:wrap .i64 ((p:Int)+(i:Int))=((p+i:Nat):Int):=by rw [IntWalk.i64_in _ (by omega)]; omega
 rw [e1]
 by_cases hil:p+i<s.size
 rotate_left
 · rw [af (show ((p+i:Nat):Int)≥(s.size:Int) by omega),ab];refine ⟨rfl,?_⟩;rw [hg,List.drop_of_length_le (by omega)]
   rfl
 rw [ae (show ¬ ((p+i:Nat):Int)≥(s.size:Int) by omega),aa]
 obtain ⟨c,hc⟩:∃ x,(sb s)[p+i]? = some x:=⟨_,ah (by omega)⟩
 have hc8:c<256:=h8 _ (ai hc)
 have hdrop:(sb s).drop (p+i)=c::(sb s).drop (p+i+1):=by
  rw [drop_eq_getElem_cons (by omega)];rw [ah (by omega)] at hc;rw [Option.some.inj hc]
 rw [hdrop] at hg
 have e7:wrap .u64 (wrap .i64 (7*(i:Int)))=((7*i:Nat):Int):=by rw [IntWalk.i64_in _ (by omega),IntWalk.u64_in _ (by omega)]; omega
 have em:Int.tmod (c:Int) 128=((c%128:Nat):Int):=jc c 128
 rw [iG hc,IntWalk.u64_in (c:Int) (by omega),em,e7]
 have hw1:wrap .i64 ((i:Int)+1)=((i+1:Nat):Int):=aK (by omega)
 have hw2:wrap .i64 (((p+i:Nat):Int)+1)=((p+(i+1):Nat):Int):=by rw [IntWalk.i64_in _ (by omega)]; omega
 rw [hw1,hw2]
 refine ⟨by omega,by omega,?_⟩
 have bad:((i=9∧1<c)∨(0<i∧c=0))→Value.tuple #[.int .u64 0,.int .i64 (-1)]=GF p (ci 0 0 ((sb s).drop p)):=fun hb=>by
  rw [hg];unfold ci;rw [al hb]
  rfl
 by_cases hno:(i=9∧1<c)
 · rw [jX (show (i:Int)=9 by omega),ab,af (show (c:Int)>1 by omega),ab];exact ⟨rfl,bad (.inl hno)⟩
 have h9:i=9→c≤1:=fun e=>by
  by_cases hc1:1<c
  · exact absurd ⟨e,hc1⟩ hno
  · omega
 obtain ⟨b1,b2,b3⟩:=jP hi9 ha h9
 have esh:fH .u64 ((c%128:Nat):Int) ((7*i:Nat):Int)=((c%128*2^(7*i):Nat):Int):=Gh (by omega) b1
 have esum:wrap .u64 ((acc:Int)+((c%128*2^(7*i):Nat):Int))=((acc+c%128*2^(7*i):Nat):Int):=by rw [IntWalk.u64_in _ (by omega)]; omega
 rw [esh,esum]
 have fin:(128:Int)≠0∧0≤((7*i:Nat):Int)∧(bif decide ((c:Int)<128) then
   (bif decide ((i:Int)>0) then
    (bif (c:Int)==0 then h2=h2∧Value.tuple #[.int .u64 0,.int .i64 (-1)]=GF p (ci 0 0 ((sb s).drop p))
    else h2=h2∧Value.tuple #[.int .u64 ((acc+c%128*2^(7*i):Nat):Int),.int .i64 ((p+(i+1):Nat):Int)]=GF p (ci 0 0 ((sb s).drop p)))
   else h2=h2∧Value.tuple #[.int .u64 ((acc+c%128*2^(7*i):Nat):Int),.int .i64 ((p+(i+1):Nat):Int)]=GF p (ci 0 0 ((sb s).drop p)))
   else again (((acc+c%128*2^(7*i):Nat):Int),((i+1:Nat):Int)) h2):=by
  refine ⟨by decide,by omega,?_⟩;by_cases hz:0<i∧c=0
  · rw [af (show (c:Int)<128 by omega),ab,af (show (i:Int)>0 by omega),ab,jX (show (c:Int)=0 by omega),ab];exact ⟨rfl,bad (.inr hz)⟩
  have hno2:¬ ((i=9∧1<c)∨(0<i∧c=0)):=fun hh=>hh.elim hno hz
  conv at hg=>rhs; unfold ci
  rw [ak hno2] at hg;by_cases hlt:c<128
  · rw [af (show (c:Int)<128 by omega),ab];rw [al hlt] at hg;have good:h2=h2∧Value.tuple #[.int .u64 ((acc+c%128*2^(7*i):Nat):Int),.int .i64 ((p+(i+1):Nat):Int)]=GF p (ci 0 0 ((sb s).drop p)):=⟨rfl,by rw [hg]; rfl⟩
    by_cases h0:0<i
    · rw [af (show (i:Int)>0 by omega),ab,iW (show ¬ (c:Int)=0 by omega),aa];exact good
    · rw [ae (show ¬ (i:Int)>0 by omega),aa];exact good
  · rw [ae (show ¬ (c:Int)<128 by omega),aa];rw [ak hlt] at hg;have hi8:i≤8:=by by_cases e:i=9 <;> omega
    exact go _ _ ⟨rfl,i+1,_,rfl,by omega,.inl (by omega),b3,by rw [hg,show p+(i+1)=p+i+1 by omega]⟩ (by simp only [Int.toNat_natCast]; omega)
 by_cases e9:i=9
 · rw [jX (show (i:Int)=9 by omega),ab,ae (show ¬ (c:Int)>1 by have:=h9 e9; omega),aa];exact fin
 · rw [iW (show ¬ (i:Int)=9 by omega),aa];exact fin
theorem nE {l w r:List Nat} (h:fA l=some (w,r)):r=l.drop (l.length - r.length)∧r.length<l.length:=by
 have h0:=iw h
 refine ⟨?_,by omega⟩
 unfold fA at h
 split at h
 · cases h
 · rename_i n k hk;have hb:=j5 _ _ _ _ _ hk;split at h
   · cases h
   · rename_i hn;cases h;rw [length_drop] at hn;simp only [length_drop] at h0 ⊢;rw [drop_drop];congr 1;omega
theorem Dp {s:ByteArray}:aC prog 170 [.string s,.int .i64 (-1)] h fun v h'=>h'=h∧v=A7 s none:=by
 apply y7.ap
 unfold IS
 refine (Dr (s:=s)).mono ?_
 rintro v h1 ⟨rfl,rfl⟩
 refine ⟨0,-1,rfl,?_⟩
 rw [show decide ((-1:Int)<0)=true from rfl,ab]
 exact ⟨rfl,rfl⟩
theorem tG {s:ByteArray} {p:Nat} (hs:s.size≤1099511627776) (hp:p≤s.size):aC prog 170 [.string s,.int .i64 (p:Int)] h fun v h'=>h'=h∧v=A7 s (fA ((sb s).drop p)):=by
 have hsl:=bd s
 apply y7.ap
 unfold IS
 refine (tH hs hp).mono ?_
 rintro v h1 ⟨rfl,rfl⟩
 unfold fA
 cases hu:ci 0 0 ((sb s).drop p) with
 | none=>
   refine ⟨0,-1,rfl,?_⟩;rw [show decide ((-1:Int)<0)=true from rfl,ab];exact ⟨rfl,rfl⟩
 | some q=>
   obtain ⟨n,k⟩:=q;have hk:=j5 _ _ _ _ _ hu;have hn:=j4 _ _ _ _ _ (by decide) (by decide) hu;rw [length_drop,hsl] at hk;refine ⟨(n:Int),((p+k:Nat):Int),rfl,?_⟩;have e1:wrap .u64 (wrap .i64 ((s.size:Int) - ((p+k:Nat):Int)))=((s.size - (p+k):Nat):Int):=by rw [IntWalk.i64_in _ (by omega),IntWalk.u64_in _ (by omega)]; omega
   rw [ae (show ¬ ((p+k:Nat):Int)<0 by omega),aa,e1];have hl2:(((sb s).drop p).drop k).length=s.size - (p+k):=by rw [length_drop,length_drop,hsl]; omega
   simp only [];by_cases hlt:s.size - (p+k)<n
   · rw [af (show (n:Int)>((s.size - (p+k):Nat):Int) by omega),ab,al (by omega)];exact ⟨by trivial,rfl⟩
   · rw [ae (show ¬ (n:Int)>((s.size - (p+k):Nat):Int) by omega),aa,ak (by omega)];have e2:wrap .i64 (((p+k:Nat):Int)+wrap .i64 (n:Int))=((p+k+n:Nat):Int):=by rw [dt (by omega),IntWalk.i64_in _ (by omega)]; omega
     rw [e2];refine ⟨by omega,by omega,by omega,by trivial,?_⟩;rw [Int.toNat_natCast,Int.toNat_natCast];have h8:B8 ((((sb s).drop p).drop k).take n):=(((fT s).dropN p).dropN k).takeN n;have e3:s.extract (p+k) (p+k+n)=bT ((((sb s).drop p).drop k).take n):=iK (by rw [ff,bM h8,drop_drop]; congr 1; omega);have e4:s.size - ((((sb s).drop p).drop k).drop n).length=p+k+n:=by rw [length_drop,hl2]; omega
     unfold A7;simp only [];rw [e3,e4]
def Ml (s:ByteArray) (F:List aE) (v:Value) (h':Heap):Prop:=
 (∃ ps a c,cI (sb s)=some ps∧v=.tuple #[.slice a ps.length c,.bool true]∧aD (aL 98 2 a ps.length c (ps.flatMap bV)::F) h')∨
 (cI (sb s)=none∧v=.tuple #[.slice none 0 0,.bool false]∧aD F h')
set_option maxHeartbeats 2000000 in
theorem AK {s:ByteArray} (hs:s.size≤1099511627776) (H:aD F h):aC prog 118 [.string s] h (Ml s F):=by
 have hsl:=bd s
 apply FX.ap
 unfold Ls
 refine (tH (p:=0) hs (au _)).mono ?_
 rintro v h1 ⟨rfl,rfl⟩
 rw [drop_zero]
 have fail:∀ {K:Prop} {x:Int} {h2:Heap} {a:Option Addr} {l c:Nat},x≠(s.size:Int)→cI (sb s)=none→aD F h2→(bif (x:Int)!=(s.size:Int) then Ml s F (.tuple #[.slice none 0 0,.bool false]) h2 else K):=by
  intro K x h2 a l c hx hu H2;rw [show ((x !=(s.size:Int))=true) from bne_iff_ne.2 hx,ab];exact .inr ⟨hu,rfl,H2⟩
 cases hu:ci 0 0 (sb s) with
 | none=>
   refine ⟨0,-1,rfl,?_⟩;have hnone:cI (sb s)=none:=by unfold cI; rw [hu]
   refine aZ.by (fun st h2=>st=((-1:Int),(⟨none,0,0⟩:Sl),(0:Int))∧aD F h2) (fun _=>0) ⟨rfl,H⟩ ?_;rintro st h2 again ⟨rfl,H2⟩ go;dsimp only;rw [show decide ((0:Int)<0)=false from rfl,aa];exact fail (a:=none) (l:=0) (c:=0) (by omega) hnone H2
 | some q=>
   obtain ⟨n,k⟩:=q;have hk:=j5 _ _ _ _ _ hu;have hn:=j4 _ _ _ _ _ (by decide) (by decide) hu;rw [hsl] at hk;refine ⟨(n:Int),((0+k:Nat):Int),rfl,?_⟩;rw [Nat.zero_add];have hnone:bK n ((sb s).drop k)=none→cI (sb s)=none:=fun e=>by unfold cI; rw [hu]; simp only []; rw [e]
   have hsome:∀ {ps:Jw} {r:List Nat},bK n ((sb s).drop k)=some (ps,r)→r≠[]→cI (sb s)=none:=fun {ps r} e hr=>by
    unfold cI;rw [hu];simp only [];rw [e]
    cases r with
    | nil=>exact absurd rfl hr
    | cons x r=>rfl
   generalize hl0:(sb s).drop k=l0 at hnone hsome;have hl0l:l0.length=s.size - k:=by rw [← hl0,length_drop,hsl]
   refine aZ.by (fun (st:Int×Sl×Int) h2=>∃ (i:Nat) (xs:Jw),st.2.2=(i:Int)∧st.2.1.l=xs.length∧xs.length=i∧i≤n∧aD (aL 98 2 st.2.1.a xs.length st.2.1.c (xs.flatMap bV)::F) h2∧
    ((st.1 = -1∧bK n l0=none)∨∃ r:List Nat,st.1=((s.size - r.length:Nat):Int)∧r.length≤s.size∧r=(sb s).drop (s.size - r.length)∧2*i+r.length≤l0.length∧bK n l0=more xs (bK (n - i) r)))
    (fun st=>if st.1 = -1 then 0 else 1+(n - st.2.2.toNat)) ⟨0,[],rfl,rfl,rfl,au _,bE 98 2 H,.inr ⟨l0,?_,by omega,?_,by omega,?_⟩⟩ ?_
   · dsimp only;rw [hl0l];congr 1;omega
   · rw [hl0l,← hl0];congr 1;omega
   · rw [Nat.sub_zero]
     cases bK n l0 with
     | none=>rfl
     | some q=>rfl
   rintro ⟨Mi,⟨oa,ol,oc⟩,Mh⟩ h2 again ⟨i,xs,rfl,hol,hxi,hin,H2,hcase⟩ go;dsimp only at hol H2 hcase ⊢;subst hol
   rcases hcase with ⟨rfl,hno⟩ | ⟨r,rfl,hrl,hrd,hlen,hun⟩
   · -- there is no place
     have hne:(-1:Int)≠(s.size:Int):=by omega
     by_cases hlt:i<n
     · rw [af (show (i:Int)<(n:Int) by omega),ab,show decide ((-1:Int)≥0)=false from rfl,aa];exact fail (a:=none) (l:=0) (c:=0) hne (hnone hno) H2.drop
     · rw [ae (show ¬ (i:Int)<(n:Int) by omega),aa];exact fail (a:=none) (l:=0) (c:=0) hne (hnone hno) H2.drop
   by_cases hlt:i<n
   · rw [af (show (i:Int)<(n:Int) by omega),ab,af (show ((s.size - r.length:Nat):Int)≥0 by omega),ab];have hni:n - i=(n - (i+1))+1:=by omega
     have hw:wrap .u64 ((i:Int)+1)=((i+1:Nat):Int):=by rw [IntWalk.u64_in _ (by omega)]; omega
     rw [hw];refine aQ H2 fun b0 h3 H3=>?_;simp only [aV];refine dK H3 (by decide) (bO 2 0 (by decide)) fun h4 H4=>?_;refine dK (i:=1) H4 (by simp) (bO 2 1 (by decide)) fun h5 H5=>?_;have hsm:s.size - r.length≤s.size:=by omega
     have push:∀ {h6:Heap} {x y:ByteArray} {K:Value→Heap→Prop},aD (pt b0 (.cells #[.string x,.string y] 98 (0,0))::aL 98 2 oa xs.length oc (xs.flatMap bV)::F) h6→
      (∀ a' c' h7,aD (aL 98 2 a' (xs++[(x,y)]).length c' ((xs++[(x,y)]).flatMap bV)::F) h7→K (.slice a' (xs.length+1) c') h7)→
      Ld h6 (Addr.mk b0 0 none) fun c0=>Ld h6 ((Addr.mk b0 0 none).add 1) fun c1=>∃ x6 x7:ByteArray,(Value.agg #[c0,c1])=.agg #[.string x6,.string x7]∧Al h6 (.cells #[.string x6,.string x7] 98) fun b1 h_12=>
       aX prog (append_ #[96,96] 96 #[.slice oa xs.length oc,.slice (some (Addr.mk b1 0 none)) 1 1]) h_12 K:=by
      intro h6 x y K H6 hK;refine ⟨.string x,by rw [bj H6.get]; rfl,.string y,bZ (i:=1) H6 rfl,x,y,rfl,?_⟩;refine aQ H6 fun b1 h7 H7=>?_;refine jR D3 uf uA (H7.mv 2) (n:=1) (ys:=bV (x,y)) (ce (ln H7 rfl) rfl) (by intro u hu; simp [bV] at hu; rcases hu with rfl | rfl <;> rfl) (by omega) fun a' c' h8 _ H8=>?_;refine hK a' c' h8 ?_;rw [flatMap_append,am];have e:([(x,y)]:Jw).flatMap bV=bV (x,y):=by simp
      rw [e];exact H8.ordT 3 [0]
     have H5':aD (pt b0 (.cells #[.string .empty,.string .empty] 98 (0,0))::aL 98 2 oa xs.length oc (xs.flatMap bV)::F) h5:=H5;refine (tG hs hsm).mono ?_;rintro v h6 ⟨rfl,rfl⟩;rw [← hrd]
     cases hw1:fA r with
     | none=>
       refine ⟨.empty,-1,rfl,?_⟩;refine dK H5' (by decide) (bO 2 0 (by decide)) fun h7 H7=>?_;refine (Dp (s:=s)).mono ?_;rintro v h8 ⟨rfl,rfl⟩;refine ⟨.empty,-1,rfl,?_⟩;refine dK (i:=1) H7 (by simp) (bO 2 1 (by decide)) fun h9 H9=>?_;refine push (x:=.empty) (y:=.empty) H9 fun a' c' h10 H10=>?_;rw [aF];refine go _ _ ⟨i+1,xs++[(.empty,.empty)],rfl,by simp,by rw [am]; simp [hxi],by omega,H10,.inl ⟨rfl,?_⟩⟩ (by dsimp only; rw [al rfl,ak (by omega)]; omega);rw [hun,hni];unfold bK gi;rw [hw1]
       rfl
     | some q1=>
       obtain ⟨w1,r1⟩:=q1;obtain ⟨d1,d2⟩:=nE hw1;have hr1:r1=(sb s).drop (s.size - r1.length):=by
        rw [hrd,drop_drop,length_drop,hsl] at d1
        conv=>lhs; rw [d1]
        congr 1;omega
       refine ⟨bT w1,((s.size - r1.length:Nat):Int),rfl,?_⟩;refine dK H5' (by decide) (bO 2 0 (by decide)) fun h7 H7=>?_;refine (tG (p:=s.size - r1.length) hs (by omega)).mono ?_;rintro v h8 ⟨rfl,rfl⟩;rw [← hr1]
       cases hw2:fA r1 with
       | none=>
         refine ⟨.empty,-1,rfl,?_⟩;refine dK (i:=1) H7 (by simp) (bO 2 1 (by decide)) fun h9 H9=>?_;refine push (x:=bT w1) (y:=.empty) H9 fun a' c' h10 H10=>?_;rw [aF];refine go _ _ ⟨i+1,xs++[(bT w1,.empty)],rfl,by simp,by rw [am]; simp [hxi],by omega,H10,.inl ⟨rfl,?_⟩⟩ (by dsimp only; rw [al rfl,ak (by omega)]; omega);rw [hun,hni];unfold bK gi;rw [hw1];simp only [];rw [hw2]
         rfl
       | some q2=>
         obtain ⟨w2,r2⟩:=q2;obtain ⟨d3,d4⟩:=nE hw2;have hr2:r2=(sb s).drop (s.size - r2.length):=by
          rw [hr1,drop_drop,length_drop,hsl] at d3
          conv=>lhs; rw [d3]
          congr 1;omega
         refine ⟨bT w2,((s.size - r2.length:Nat):Int),rfl,?_⟩;refine dK (i:=1) H7 (by simp) (bO 2 1 (by decide)) fun h9 H9=>?_;refine push (x:=bT w1) (y:=bT w2) H9 fun a' c' h10 H10=>?_;rw [aF];refine go _ _ ⟨i+1,xs++[(bT w1,bT w2)],rfl,by simp,by rw [am]; simp [hxi],by omega,H10,.inr ⟨r2,rfl,by omega,hr2,by omega,?_⟩⟩ (by dsimp only; rw [ak (by omega),ak (by omega),Int.toNat_natCast,Int.toNat_natCast]; omega);rw [hun,hni]
         conv=>lhs; unfold bK
         unfold gi;rw [hw1];simp only [];rw [hw2];simp only []
         cases bK (n - (i+1)) r2 with
         | none=>rfl
         | some q=>
           obtain ⟨qs,t⟩:=q;show some (xs++(bT w1,bT w2)::qs,t)=some (xs++[(bT w1,bT w2)]++qs,t);rw [append_assoc]
           rfl
   · have hi0:n - i=0:=by omega
     rw [ae (show ¬ (i:Int)<(n:Int) by omega),aa];rw [hi0] at hun;have hun2:bK n l0=some (xs,r):=by
      rw [hun];show some (xs++[],r)=_;rw [append_nil]
     by_cases hr0:r=[]
     · subst hr0;simp only [length_nil,Nat.sub_zero];rw [bne_self_eq_false,aa];have hall:cI (sb s)=if s.size≤16777216 then some xs else none:=by
        unfold cI;rw [hu];simp only [];rw [hl0,hun2];simp only [];rw [hsl]
       by_cases hbig:16777216<s.size
       · rw [af (show (s.size:Int)>16777216 by omega),ab];rw [ak (by omega)] at hall;exact .inr ⟨hall,rfl,H2.drop⟩
       · rw [ae (show ¬ (s.size:Int)>16777216 by omega),aa];rw [al (by omega)] at hall;exact .inl ⟨xs,oa,oc,hall,rfl,H2⟩
     · have h1:0<r.length:=List.length_pos_iff.2 hr0;exact fail (a:=none) (l:=0) (c:=0) (by omega) (hsome hun2 hr0) H2.drop
theorem Ee {b:Nat} {x:Nat} (hx:x<256) (H:aD (pt b (.cells #[.int .u8 (x:Int)] 5 (0,0))::F) h):bJ h (some (Addr.mk b 0 none)) 1 (bT [x]):=by
 have H2:aD (aL 5 1 (some ⟨b,0,none⟩) 1 1 ([x].map nv)::F) h:=fB H (bO _) (av _) (by unfold maxLen; decide) rfl rfl
 exact ct (aH H2) rfl (by intro n hn; simp at hn; omega)
set_option maxRecDepth 20000 in
theorem tQ:∀ (n:Nat) {F:List aE} {h:Heap},n<18446744073709551616→aD F h→aC prog 121 [.int .u64 (n:Int)] h fun v h'=>v=.string (bT (gd n))∧aD F h':=by
 intro n
 induction n using Nat.strongRecOn with
 | ind n ih=>
   intro F h hn H;apply FU.ap;unfold Lq;by_cases hs:n<128
   · rw [af (show (n:Int)<128 by omega),ab,ee];refine aQ H fun b0 h1 H1=>?_;refine ⟨bT [n%256],Ee (Nat.mod_lt _ (by decide)) H1,?_,H1.drop⟩;rw [gG hs,Nat.mod_eq_of_lt (by omega)]
   · have e1:Int.tmod (n:Int) 128=((n%128:Nat):Int):=jc n 128;have e2:Int.tdiv (n:Int) 128=((n / 128:Nat):Int):=j7 n 128;have hlt:n / 128<n:=Nat.div_lt_self (by omega) (by decide);have hdm:n%128<128:=Nat.mod_lt _ (by decide);have e3:wrap .u64 (((n%128:Nat):Int)+128)=((n%128+128:Nat):Int):=by rw [IntWalk.u64_in _ (by omega)]; omega
     have e4:wrap .u8 ((n%128+128:Nat):Int)=((n%128+128:Nat):Int):=by rw [ee,Nat.mod_eq_of_lt (by omega)]
     have e5:wrap .u64 ((n / 128:Nat):Int)=((n / 128:Nat):Int):=IntWalk.u64_in _ (by omega);have hcat:bT [n%128+128]++bT (gd (n / 128))=bT (gd n):=by
      refine iK ?_;rw [i1,bM (by intro x hx; simp at hx; omega),bM (iU _),bM (iU _),nW hs]
      rfl
     have hnl:(gd (n / 128)).length≤10:=fy 9 _ (Nat.lt_of_lt_of_le (show n / 128<18446744073709551616 by omega) (by decide));have hz:(bT [n%128+128]).size+(bT (gd (n / 128))).size≤9223372036854775807:=by
      rw [← bd,← bd,bM (by intro x hx; simp at hx; omega),bM (iU _)];simp only [ao,length_nil];omega
     rw [ae (show ¬ (n:Int)<128 by omega),aa,e1,e2,e3,e4,e5];refine ⟨by decide,by decide,?_,?_⟩
     · refine aQ H fun b1 h1 H1=>?_;refine ⟨rfl,⟨by decide,rfl⟩,bT [n%128+128],Ee (by omega) H1,?_⟩;refine (ih _ hlt (by omega) H1).mono ?_;rintro v h2 ⟨rfl,H2⟩;rw [aW];refine ⟨rfl,⟨by decide,rfl⟩,rfl,rfl,⟨bT [n%128+128],Ee (by omega) H2,rfl⟩,hz,?_,H2.drop⟩;rw [hcat]
     · refine (ih _ hlt (by omega) H).mono ?_;rintro v h2 ⟨rfl,H2⟩;rw [aW];refine ⟨rfl,⟨by decide,rfl⟩,rfl,rfl,?_⟩;refine aQ H2 fun b2 h3 H3=>?_;refine ⟨rfl,⟨by decide,rfl⟩,bT [n%128+128],Ee (by omega) H3,hz,?_,H3.drop⟩;rw [hcat]
theorem tP {s:ByteArray} (hs:s.size≤1099511627776) (H:aD F h):aC prog 122 [.string s] h fun v h'=>v=.string (bT (dV (sb s)))∧aD F h':=by
 have hsl:=bd s
 apply FT.ap
 unfold Lp
 rw [IntWalk.u64_in (s.size:Int) (by omega)]
 refine (tQ s.size (by omega) H).mono ?_
 rintro v h1 ⟨rfl,H1⟩
 rw [aW]
 have hnl:(gd s.size).length≤6:=fy 5 _ (by omega)
 have e:sb (bT (gd s.size))=gd s.size:=bM (iU _)
 refine ⟨by rw [← bd,e]; omega,?_,H1⟩
 have e2:bT (gd s.size)++s=bT (dV (sb s)):=by
  refine iK ?_;rw [i1,e,bM]
  · unfold dV;rw [hsl]
  · intro x hx;unfold dV at hx
    rcases List.mem_append.1 hx with hx | hx
    · exact iU _ x hx
    · exact fT s x hx
 rw [e2]
def xr (ps:Jw):Value:=if 16777216<(dE ps).length then .tuple #[.string .empty,.int .i64 42] else .tuple #[.string (bT (dE ps)),.int .i64 0]
theorem nC (s:ByteArray):B8 (dV (sb s)):=qi (fT s)
theorem Ea (n:Nat) (ps:Jw):B8 (ji n ps):=fun x hx=>by
 unfold ji at hx
 rcases List.mem_append.1 hx with hx | hx
 · exact iU _ x hx
 · obtain ⟨p,_,hx⟩:=List.mem_flatMap.1 hx;unfold gM at hx
   rcases List.mem_append.1 hx with hx | hx
   · exact nC _ x hx
   · exact nC _ x hx
set_option maxHeartbeats 1000000 in
theorem CO {la:Option Addr} {ll lc:Nat} {ps:Jw} (hr:∀ h',aD F h'→dF h' la (ps.flatMap bV)) (hl:ps.length=ll) (hll:ll<100000000000) (hp:∀ p∈ps,p.1.size≤1000000000∧p.2.size≤1000000000) (hsz:(dE ps).length≤1099511627776) (H:aD F h) :
  aC prog 63 [.slice la ll lc] h fun v h'=>v=xr ps∧aD F h':=by
 apply HZ.ap
 unfold ME
 rw [IntWalk.u64_in (ll:Int) (by omega)]
 refine (tQ ll (by omega) H).mono ?_
 rintro v h1 ⟨rfl,H1⟩
 rw [aW]
 have hnl:(gd ll).length≤7:=fy 6 _ (by omega)
 have en:sb (bT (gd ll))=gd ll:=bM (iU _)
 have ez:(bT (gd ll)).size=(gd ll).length:=by rw [← bd,en]
 refine ot (by kernel_rfl) AZ (by kernel_rfl) (by rw [ez]; unfold maxLen; omega) H1 fun xb xc h2 H2=>?_
 rw [aF]
 rw [en,ez] at H2
 rw [ez]
 subst hl
 rw [← ly] at hsz
 refine aZ.upto ps.length (fun i (s:Sl×Int) h2=>s.2=(i:Int)∧i≤ps.length∧s.1.l=(ji ps.length (ps.take i)).length∧aD (aL 5 1 s.1.a s.1.l s.1.c ((ji ps.length (ps.take i)).map nv)::F) h2) (fun s=>ps.length - s.2.toNat) (fun i s h2 hh=>⟨hh.2.1,by rw [hh.1]; omega⟩)
  ⟨rfl,au _,by simp [ji],by simpa [ji] using H2⟩ ?_ ?_
 · rintro i ⟨⟨sa,sl,sc⟩,s2⟩ h2 again hi ⟨rfl,_,rfl,H2⟩ go;simp only at H2 ⊢;rw [af (show ((i:Int)<(ps.length:Int)) by omega),ab];obtain ⟨⟨k,x⟩,hx⟩:∃ x,ps[i]? = some x:=⟨_,ah (by omega)⟩
   have hkx:k.size≤1000000000∧x.size≤1000000000:=hp _ (ai hx);have hpre:ji ps.length (ps.take (i+1))=ji ps.length (ps.take i)++dV (sb k)++dV (sb x):=by
    rw [ax,hx];unfold ji;rw [flatMap_append,← append_assoc,append_assoc _ (dV _)];simp [gM]
   have hle:=yC ps.length ps (i+1);rw [hpre,am,am] at hle;have sz:∀ s:ByteArray,(bT (dV (sb s))).size=(dV (sb s)).length:=fun s=>by rw [← bd,bM (nC s)]
   have sw:∀ s:ByteArray,sb (bT (dV (sb s)))=dV (sb s):=fun s=>bM (nC s);refine fX (f:=bV) (sz:=2) (x:=(k,x)) i3 (by decide) (hr _ H2.drop) rfl hx fun b hb hc=>?_;refine ⟨.string k,hc 0 _ rfl,k,rfl,?_⟩;refine (tP (s:=k) (by omega) H2).mono ?_;rintro v h3 ⟨rfl,H3⟩;rw [aW];refine pj AZ (by kernel_rfl) pK H3 (GI _) (by rw [sz]; omega) fun a' c' h4 _ H4=>?_;rw [aF];refine fX (f:=bV) (sz:=2) (x:=(k,x)) i3 (by decide) (hr _ H4.drop) rfl hx fun b2 hb2 hc2=>?_;refine ⟨.string x,hc2 1 _ rfl,x,rfl,?_⟩;refine (tP (s:=x) (by omega) H4).mono ?_;rintro v h5 ⟨rfl,H5⟩;rw [aW];refine pj AZ (by kernel_rfl) pK H5 (GI _) (by rw [sz,sz]; omega) fun a2 c2 h6 _ H6=>?_;rw [aF,aK (by omega)];rw [sw,sw,sz,sz] at H6;refine go _ _ ⟨rfl,by omega,?_,?_⟩
   · rw [hpre,am,am,sz,sz]
   · rw [hpre];dsimp only;rw [sz,sz];exact H6
 · rintro ⟨⟨sa,sl,sc⟩,s2⟩ h2 again ⟨rfl,_,rfl,H2⟩;simp only at H2 ⊢;rw [ae (by omega),aa];rw [ar (by omega),ly] at H2 ⊢;unfold xr;by_cases hb:16777216<(dE ps).length
   · rw [af (show (((dE ps).length:Int)>16777216) by omega),ab,al hb];exact ⟨rfl,H2.drop⟩
   · rw [ae (show ¬ (((dE ps).length:Int)>16777216) by omega),aa,ak hb];refine ⟨bT (dE ps),ct (aH H2) rfl (by rw [← ly]; exact Ea _ _),rfl,H2.drop⟩
end
end Go.Proofs.YtmemjbiijclbdaaGreat
