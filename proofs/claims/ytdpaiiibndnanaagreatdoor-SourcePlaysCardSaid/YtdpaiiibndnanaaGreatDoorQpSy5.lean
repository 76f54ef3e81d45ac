/- The document's Unhex (out of Ph2,in the numbers of seat S). -/
import Derived.Test.YtdpaiiibndnanaaGreatDoorQpPh1
import Derived.Test.YtdpaiiibndnanaaGreatDoorQpPlA
namespace Go.Proofs.YtdpaiiibndnanaaGreatDoor
open Go.IntKind (wrap)
open Go.Proofs.Tryz (prog)
open List (length_drop take_append_drop)
open Go Go.RowKit
open Hex (gW eQ hv uh dw)
set_option linter.unusedVariables false
set_option linter.unusedSimpArgs false
section
variable {F:List aF} {h:Heap}
theorem xC {s:ByteArray} (hz:s.size≤1099511627776) (H:aG F h):aE prog 135 [.string s] h fun v h'=>v=uv (dw (sb s))∧aG F h':=by
 apply Cq.ap
 unfold GV
 have hsl:=bE s
 have h8:=gv s
 by_cases hs16:s.size=16
 · rw [show (((s.size:Nat):Int)!=16)=false from by rw [hs16]; rfl,ab];refine ⟨by omega,by omega,?_⟩;obtain ⟨x0,hx0⟩:∃ x,(sb s)[0]? = some x:=⟨_,ai (by omega)⟩
   have hb0:=nK hx0;rw [show (((0:Nat):Int))=(0:Int) from rfl] at hb0;rw [hb0];by_cases h55:x0>55
   · rw [ah (by omega),ae];have:dw (sb s)=none:=by
      unfold dw;rw [an (by omega)]
      cases hu:uh (sb s) 0 with
      | none=>rfl
      | some v=>
        have hcons:sb s=x0::(sb s).drop 1:=by
         cases hs:sb s with
         | nil=>rw [hs] at hx0; cases hx0
         | cons y l=>rw [hs] at hx0; cases hx0; rfl
        rw [hcons] at hu;unfold uh at hu
        cases hv0:hv x0 with
        | none=>rw [hv0] at hu; cases hu
        | some k=>
          rw [hv0] at hu;have hge:=Hex.xV _ _ _ hu;have hk8:8≤k:=by
           unfold hv at hv0;split at hv0
           · cases hv0; omega
           · split at hv0
             · cases hv0; omega
             · cases hv0
          have hl15:((sb s).drop 1).length=15:=by rw [length_drop]; omega
          rw [hl15] at hge;have:8*16^15≤(16*0+k)*16^15:=Nat.mul_le_mul_right _ (by omega);have hv2:9223372036854775808≤v:=Nat.le_trans (Nat.le_trans (by decide) this) hge;simp only [am (show ¬ v<9223372036854775808 by omega)]
     rw [this];exact ⟨rfl,H⟩
   · rw [af (by omega),ab];refine ⟨fun st hh=>hh=h∧∃ (i n:Nat),st=((n:Int),(i:Int))∧i≤16∧uh ((sb s).take i) 0=some n∧(i=0→n=0)∧(0<i→n<8*16^(i - 1)),fun st _=>(16 - st.2).toNat,⟨rfl,0,0,rfl,aw _,rfl,fun _=>rfl,fun h=>by omega⟩,?_⟩;rintro st h2 ⟨rfl,i,n,rfl,hi,hn,hz0,hlt⟩;by_cases hil:i<16
     · rw [ah (show ((i:Int)<16) by omega),ae];refine ⟨by omega,by omega,?_⟩;obtain ⟨x,hx⟩:∃ x,(sb s)[i]? = some x:=⟨_,ai (by omega)⟩
       have hx8:=h8 x (aj hx);rw [nK hx];have htake:uh ((sb s).take (i+1)) 0=uh [x] n:=by
        rw [az,hx];show uh ((sb s).take i++[x]) 0=_;rw [Hex.jj,hn]
        rfl
       have bad:hv x=none→uv (dw (sb s))=.tuple #[.int .i64 0,.bool false]:=by
        intro hvx;have hu:uh (sb s) 0=none:=by
         rw [← take_append_drop (i+1) (sb s),Hex.jj,htake];unfold uh;rw [hvx]
         rfl
        have:dw (sb s)=none:=by
         unfold dw;rw [hu];simp
        rw [this]
        rfl
       have hnb:n≤576460752303423487:=by
        by_cases hi0:i=0
        · rw [hz0 hi0]; omega
        · have h1:=hlt (by omega);have h2:16^(i - 1)≤72057594037927936:=Nat.le_trans (Nat.pow_le_pow_right (by omega) (show i - 1≤14 by omega)) (by decide);omega
       have good:∀ k,hv x=some k→(h2=h2∧∃ (j n':Nat),(((16*n+k:Nat):Int),wrap .i64 ((i:Int)+1))=(((n':Nat):Int),(j:Int))∧j≤16∧uh ((sb s).take j) 0=some n'∧(j=0→n'=0)∧(0<j→n'<8*16^(j - 1)))∧(16 - wrap .i64 ((i:Int)+1)).toNat<(16 - (i:Int)).toNat:=by
        intro k hk;have hk15:=Hex.vK hk;rw [aN (by omega)];refine ⟨⟨rfl,i+1,16*n+k,rfl,by omega,?_,fun h=>by omega,fun _=>?_⟩,by omega⟩
        · rw [htake];unfold uh;rw [hk]
          rfl
        · show 16*n+k<8*16^i;by_cases hi0:i=0
          · subst hi0;rw [hz0 rfl];have hxx:x=x0:=by rw [hx0] at hx; exact (Option.some.inj hx).symm
            have:k≤7:=by
             unfold hv at hk;split at hk
             · cases hk; omega
             · split at hk
               · cases hk; omega
               · cases hk
            simp;omega
          · have h1:=hlt (by omega);have hp:16^i=16^(i - 1)*16:=by rw [← Nat.pow_succ]; congr 1; omega
            rw [hp];omega
       by_cases h48:48≤x
       · rw [ah (show ((x:Int)≥48) by omega),ae];by_cases h57:x≤57
         · rw [ah (show ((x:Int)≤57) by omega),ae];have w:wrap .i64 (wrap .i64 ((n:Int)*16)+wrap .i64 (wrap .u8 ((x:Int) - 48)))=((16*n+(x - 48):Nat):Int):=by
            rw [IntWalk.i64_in ((n:Int)*16) (by omega),IntWalk.u8_in ((x:Int) - 48) (by omega),IntWalk.i64_in ((x:Int) - 48) (by omega),IntWalk.i64_in _ (by omega)];omega
           rw [w];exact good (x - 48) (by unfold hv; rw [an ⟨h48,h57⟩])
         · rw [af (show ¬ ((x:Int)≤57) by omega),ab];by_cases h97:97≤x
           · rw [ah (show ((x:Int)≥97) by omega),ae];by_cases h102:x≤102
             · rw [ah (show ((x:Int)≤102) by omega),ae];have w:wrap .i64 (wrap .i64 (wrap .i64 ((n:Int)*16)+wrap .i64 (wrap .u8 ((x:Int) - 97)))+10)=((16*n+(x - 87):Nat):Int):=by
                rw [IntWalk.i64_in ((n:Int)*16) (by omega),IntWalk.u8_in ((x:Int) - 97) (by omega),IntWalk.i64_in ((x:Int) - 97) (by omega),IntWalk.i64_in ((n:Int)*16+((x:Int) - 97)) (by omega),IntWalk.i64_in _ (by omega)];omega
               rw [w];exact good (x - 87) (by unfold hv; rw [am (by omega),an ⟨h97,h102⟩])
             · rw [af (show ¬ ((x:Int)≤102) by omega),ab,bad (by unfold hv; rw [am (by omega),am (by omega)])];exact ⟨rfl,H⟩
           · rw [af (show ¬ ((x:Int)≥97) by omega),ab,bad (by unfold hv; rw [am (by omega),am (by omega)])];exact ⟨rfl,H⟩
       · rw [af (show ¬ ((x:Int)≥48) by omega),ab,af (show ¬ ((x:Int)≥97) by omega),ab,bad (by unfold hv; rw [am (by omega),am (by omega)])];exact ⟨rfl,H⟩
     · rw [af (by omega),ab];have ei:i=16:=by omega
       subst ei;rw [av (by omega)] at hn;have hlt2:n<9223372036854775808:=hlt (by omega);have hu:dw (sb s)=some n:=by
        unfold dw;rw [an (by omega),hn];simp only [an hlt2]
       rw [hu];exact ⟨rfl,H⟩
 · rw [show (((s.size:Nat):Int)!=16)=true from by rw [bne_iff_ne]; omega,ae];have:dw (sb s)=none:=by
    unfold dw;rw [am (by omega)]
   rw [this];exact ⟨rfl,H⟩
end
end Go.Proofs.YtdpaiiibndnanaaGreatDoor
