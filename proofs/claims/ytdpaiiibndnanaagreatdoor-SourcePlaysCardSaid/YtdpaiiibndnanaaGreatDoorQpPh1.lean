/- Digits and their numbers. -/
import Derived.Test.YtdpaiiibndnanaaGreatDoorQpPlA
namespace Go.Proofs.YtdpaiiibndnanaaGreatDoor
open Go.IntKind (wrap)
open Go.Proofs.Tryz (prog)
open List (take_append_drop cons_append)
open Go Go.RowKit
set_option linter.unusedVariables false
set_option linter.unusedSimpArgs false
namespace Hex
def hv (c:Nat):Option Nat:=if 48≤c∧c≤57 then some (c - 48) else if 97≤c∧c≤102 then some (c - 87) else none
def uh:List Nat→Nat→Option Nat
 | [],a=>some a
 | c::l,a=>match hv c with
   | some k=>uh l (16*a+k)
   | none=>none
def dw (s:List Nat):Option Nat:=if s.length=16 then match uh s 0 with
    | some v=>if v<9223372036854775808 then some v else none
    | none=>none
 else none
theorem vK {c k:Nat} (h:hv c=some k):k≤15:=by
 unfold hv at h
 split at h
 · cases h; omega
 · split at h
   · cases h; omega
   · cases h
theorem jj:∀ (a b:List Nat) (x:Nat),uh (a++b) x=(uh a x).bind (uh b)
 | [],b,x=>rfl
 | c::a,b,x=>by
   rw [cons_append];unfold uh
   cases hv c with
   | none=>rfl
   | some k=>exact jj a b _
theorem xV:∀ (l:List Nat) (a v:Nat),uh l a=some v→a*16^l.length≤v
 | [],a,v,h=>by cases h; simp
 | c::l,a,v,h=>by
   unfold uh at h
   cases hc:hv c with
   | none=>rw [hc] at h; cases h
   | some k=>
     rw [hc] at h;have:=xV l _ v h;rw [ar,Nat.pow_succ];refine Nat.le_trans ?_ this;rw [show a*(16^l.length*16)=16*a*16^l.length from by rw [← Nat.mul_assoc,Nat.mul_comm,← Nat.mul_assoc]];exact Nat.mul_le_mul_right _ (by omega)
end Hex
open Hex (gW eQ hv uh dw)
theorem wY:∀ c:Fin 256,Lib.indexByte [48,49,50,51,52,53,54,55,56,57,97,98,99,100,101,102] (c.val).toUInt8=(match hv c.val with
 | some k=>((k:Nat):Int)
 | none => -1):=by decide +kernel
section
variable {F:List aF} {h:Heap}
theorem xr {c:Nat} (hc:c<256):aE prog 160 [.string ⟨#[48,49,50,51,52,53,54,55,56,57,97,98,99,100,101,102]⟩,.int .u8 (c:Int)] h fun v h'=>h'=h∧v=.int .i64 (match hv c with
  | some k=>((k:Nat):Int)
  | none => -1):=by
 refine ⟨by kernel_rfl,fun w hw=>callsIn_wide.2 ((Tryz.strings_IndexByte _ _ w).mono ?_)⟩
 rintro e w' ⟨rfl,rfl⟩
 refine ⟨_,rfl,⟨hw,?_⟩,.refl w'⟩
 rw [Int.toNat_natCast]
 exact congrArg _ (wY ⟨c,hc⟩)
def uv (r:Option Nat):Value:=.tuple #[.int .i64 ((r.getD 0:Nat):Int),.bool r.isSome]
theorem Fl {i:Nat} (hi:i≤15):16^i≤1152921504606846976:=Nat.le_trans (Nat.pow_le_pow_right (by omega) hi) (by decide)
theorem xG {s:ByteArray} (hz:s.size≤1099511627776) (H:aG F h):aE prog 127 [.string s] h fun v h'=>v=uv (dw (sb s))∧aG F h':=by
 apply Cx.ap
 unfold Hc
 refine zf H (Nat.le_trans hz (by decide)) fun a c h1 H1=>?_
 rw [aI]
 have hsl:=bE s
 have hrd:=aH H1
 have h8:=gv s
 refine ⟨fun st hh=>hh=h1∧∃ (i n:Nat),st=((n:Int),(i:Int))∧i≤s.size∧uh ((sb s).take i) 0=some n∧(0<i→s.size=16)∧n<16^i,fun st _=>((s.size:Int) - st.2).toNat,⟨rfl,0,0,rfl,aw _,rfl,fun h=>by omega,by decide⟩,?_⟩
 rintro st h2 ⟨rfl,i,n,rfl,hi,hn,h16,hlt⟩
 by_cases hil:i<s.size
 · rw [ah (show ((i:Int)<(s.size:Int)) by omega),ae];obtain ⟨x,hx⟩:∃ x,(sb s)[i]? = some x:=⟨_,ai (by omega)⟩
   have hx8:=h8 x (aj hx);refine bj (v:=nv x) hrd (by rw [aq]; exact hsl) (by rw [List.getElem?_map,hx]; rfl) fun ba hba hc=>⟨_,hc,?_⟩
   show DI .u8 (.int .u8 (x:Int)) _;rw [aL];refine (xr hx8).mono ?_;rintro v h3 ⟨rfl,rfl⟩;rw [aL];have htake:uh ((sb s).take (i+1)) 0=uh [x] n:=by
    rw [az,hx];show uh ((sb s).take i++[x]) 0=_;rw [Hex.jj,hn]
    rfl
   cases hvx:hv x with
   | none=>
     show bif decide ((-1:Int)<0) then _ else _
     rw [show decide ((-1:Int)<0)=true from rfl,ae];have:dw (sb s)=none:=by
      have hu:uh (sb s) 0=none:=by
       rw [← take_append_drop (i+1) (sb s),Hex.jj,htake];unfold uh;rw [hvx]
       rfl
      unfold dw;rw [hu];simp
     rw [this];exact ⟨rfl,H1.drop⟩
   | some k=>
     show bif decide (((k:Nat):Int)<0) then _ else _
     rw [af (by omega),ab];have hk:=Hex.vK hvx;by_cases hs16:s.size=16
     · rw [show (((s.size:Nat):Int)!=16)=false from by rw [hs16]; rfl,ab];refine ⟨by omega,?_⟩;have hp:=Fl (show i≤15 by omega);have w1:nO .u64 (n:Int) 4=((16*n:Nat):Int):=by
        unfold nO;show IntKind.u64.wrap ((n:Int)*2^(min 4 64))=_;rw [IntWalk.u64_in _ (by constructor <;> (simp; omega))];simp;omega
       have w2:cf .or .u64 ((16*n:Nat):Int) (wrap .u64 (k:Int))=((16*n+k:Nat):Int):=by
        rw [IntWalk.u64_in (k:Int) (by omega)];have hor:(16*n) ||| k=16*n+k:=rW (i:=4) n (by omega)
        show IntKind.u64.wrap ((BitVec.ofInt 64 ((16*n:Nat):Int) ||| BitVec.ofInt 64 (k:Int)).toNat:Int)=_;rw [BitVec.ofInt_natCast,BitVec.ofInt_natCast,BitVec.toNat_or,BitVec.toNat_ofNat,BitVec.toNat_ofNat,Nat.mod_eq_of_lt (show 16*n<2^64 by omega),Nat.mod_eq_of_lt (show k<2^64 by omega),hor];exact IntWalk.u64_in _ (by omega)
       rw [w1,w2,aN (by omega)];refine ⟨⟨by trivial,i+1,16*n+k,rfl,by omega,?_,fun _=>hs16,?_⟩,by show ((s.size:Int) - ((i+1:Nat):Int)).toNat<((s.size:Int) - (i:Int)).toNat; omega⟩
       · rw [htake];unfold uh;rw [hvx]
         rfl
       · rw [Nat.pow_succ];omega
     · rw [show (((s.size:Nat):Int)!=16)=true from by rw [bne_iff_ne]; omega,ae];have:dw (sb s)=none:=by
        unfold dw;rw [am (by omega)]
       rw [this];exact ⟨rfl,H1.drop⟩
 · rw [af (by omega),ab];have ei:i=s.size:=by omega
   subst ei;rw [av (by omega)] at hn;by_cases hs16:s.size=16
   · rw [show (((s.size:Nat):Int)!=16)=false from by rw [hs16]; rfl,ab];refine ⟨by omega,?_⟩;rw [hs16] at hlt;have hn64:n<18446744073709551616:=hlt;rw [show (63:Int)=((63:Nat):Int) from rfl,iz .u64 n 63 (by decide)];by_cases hbig:n<9223372036854775808
     · have:n / 2^63=0:=Nat.div_eq_of_lt hbig;rw [this,show ((((0:Nat):Int))==1)=false from rfl,ab,dh hbig];have hu:dw (sb s)=some n:=by
        unfold dw;rw [an (by omega),hn];simp only [an hbig]
       rw [hu];exact ⟨rfl,H1.drop⟩
     · have:n / 2^63=1:=by omega
       rw [this,show ((((1:Nat):Int))==1)=true from rfl,ae];have hu:dw (sb s)=none:=by
        unfold dw;rw [an (by omega),hn];simp only [am hbig]
       rw [hu];exact ⟨rfl,H1.drop⟩
   · rw [show (((s.size:Nat):Int)!=16)=true from by rw [bne_iff_ne]; omega,ae];have:dw (sb s)=none:=by
      unfold dw;rw [am (by omega)]
     rw [this];exact ⟨rfl,H1.drop⟩
theorem xA {n:Int} (H:aG F h):aE prog 138 [.int .i64 n] h fun v h'=>v=.string (dW (eQ 16 (lp n)))∧aG F h':=by
 apply Cn.ap
 unfold GS
 have hlt:=tn n
 rw [tp n]
 generalize lp n=m at hlt
 refine ⟨fun st hh=>∃ i:Nat,st=(((m / 16^i:Nat):Int),dW (eQ i m),(i:Int))∧i≤16∧aG F hh,fun st _=>(16 - st.2.2).toNat,⟨0,by rw [Nat.pow_zero,Nat.div_one]; rfl,aw _,H⟩,?_⟩
 rintro st h1 ⟨i,rfl,hi,H1⟩
 by_cases hil:i<16
 · rw [ah (show ((i:Int)<16) by omega),ae];refine ⟨by omega,?_⟩;have hq:m / 16^i<18446744073709551616:=Nat.lt_of_le_of_lt (Nat.div_le_self _ _) hlt;have e16:(16:Int)=((16:Nat):Int):=rfl;have hk:m / 16^i%16<16:=Nat.mod_lt _ (by omega);have w1:wrap .u8 (Int.tmod ((m / 16^i:Nat):Int) 16)=((m / 16^i%16:Nat):Int):=by
    rw [e16,j8,fu];congr 1;omega
   have w2:wrap .u64 (Int.tdiv ((m / 16^i:Nat):Int) 16)=((m / 16^(i+1):Nat):Int):=by
    have e:m / 16^i / 16=m / 16^(i+1):=by rw [Nat.div_div_eq_div_mul,Nat.pow_succ]
    rw [e16,iu,e];have hq2:m / 16^(i+1)≤m:=Nat.div_le_self _ _;generalize m / 16^(i+1)=q at hq2 ⊢;exact IntWalk.u64_in _ (by omega)
   simp only [w1,w2];have hcat:dW [gW (m / 16^i%16)]++dW (eQ i m)=dW (eQ (i+1) m):=by
    apply jL;have b1:B8 [gW (m / 16^i%16)]:=fun x hx=>by simp at hx; subst hx; exact Hex.kP hk
    rw [jr,dx b1,dx (Hex.ig i m),dx (Hex.ig (i+1) m)]
    rfl
   have next:∀ hx,aG F hx→(∃ j:Nat,(((m / 16^(i+1):Nat):Int),dW (eQ (i+1) m),wrap .i64 ((i:Int)+1))=(((m / 16^j:Nat):Int),dW (eQ j m),(j:Int))∧j≤16∧aG F hx)∧(16 - wrap .i64 ((i:Int)+1)).toNat<(16 - (i:Int)).toNat:=by
    intro hx Hx;rw [aN (by omega)];exact ⟨⟨i+1,rfl,by omega,Hx⟩,by omega⟩
   have hsz:(dW (eQ i m)).size=i:=by rw [← bE,dx (Hex.ig i m),Hex.fm]
   have hsz1:∀ x,x<256→(dW [x]).size=1:=fun x hx=>by rw [← bE,dx (fun y hy=>by simp at hy; subst hy; exact hx)]; rfl
   by_cases h9:9<m / 16^i%16
   · rw [ah (by omega),ae];have w3:wrap .u8 (wrap .u8 (97+((m / 16^i%16:Nat):Int)) - 10)=((gW (m / 16^i%16):Nat):Int):=by
      rw [IntWalk.u8_in (97+((m / 16^i%16:Nat):Int)) (by omega),IntWalk.u8_in _ (by omega)];unfold gW;rw [am (by omega)];omega
     rw [w3];refine aW H1 fun b0 h2 H2=>?_;refine ⟨dW [gW (m / 16^i%16)],fT (ge H2 rfl) rfl (fun x hx=>by simp at hx; subst hx; exact Hex.kP hk),?_,by omega,?_⟩
     · rw [hsz,hsz1 _ (Hex.kP hk)];omega
     · rw [hcat];exact next h2 H2.drop
   · rw [af (by omega),ab];have w3:wrap .u8 (48+((m / 16^i%16:Nat):Int))=((gW (m / 16^i%16):Nat):Int):=by
      rw [IntWalk.u8_in _ (by omega)];unfold gW;rw [an (by omega)];omega
     rw [w3];refine aW H1 fun b0 h2 H2=>?_;refine ⟨dW [gW (m / 16^i%16)],fT (ge H2 rfl) rfl (fun x hx=>by simp at hx; subst hx; exact Hex.kP hk),?_,by omega,?_⟩
     · rw [hsz,hsz1 _ (Hex.kP hk)];omega
     · rw [hcat];exact next h2 H2.drop
 · rw [af (show ¬ ((i:Int)<16) by omega),ab];have ei:i=16:=by omega
   subst ei;exact ⟨rfl,H1⟩
end
end Go.Proofs.YtdpaiiibndnanaaGreatDoor
