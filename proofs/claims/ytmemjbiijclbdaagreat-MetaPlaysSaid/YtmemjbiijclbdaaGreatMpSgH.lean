/- Helpers out of the segment texts (seat S). -/
import Derived.Test.YtmemjbiijclbdaaGreatMpPlA
import Derived.Test.YtmemjbiijclbdaaGreatMpFsE
import Derived.Test.YtmemjbiijclbdaaGreatMpFpA
namespace Go.Proofs.YtmemjbiijclbdaaGreat
open Go.Builtin (append_)
open Go.Proofs.Tryz (prog)
open List (map_append length_singleton)
open Go Go.RowKit
set_option linter.unusedVariables false
set_option linter.unusedSimpArgs false
theorem km {x:List Nat} (h8:B8 x):(bT x).size=x.length:=by rw [← bd,bM h8]
theorem DV {h:Heap} {a:Addr} {k:IntKind} {x:Int} {K:Int→Prop} (hv:cz h a=some (.int k x)) (hK:K x):Ld h a fun v=>DI k v K:=⟨_,hv,_,rfl,hK⟩
namespace AF
theorem yJ {n:ByteArray} {f:Nat}:∀ {l:bG},(∀ p∈l,jn p.1 n=true)→ins n f l=l++[(n,f)]
 | [],_=>rfl
 | p::l,h=>by
   have h1:=h p (by simp);have h2:p.1≠n:=fun e=>by rw [e] at h1; exact cX _ h1
   have h3:¬ jn n p.1=true:=fun e=>cX _ (gL e h1);rw [ins,ak h2,ak h3,yJ fun q hq=>h q (by simp [hq])]
   rfl
end AF
theorem Ny:prog.underlying 74=some (.slice 9):=by kernel_rfl
theorem JA:fS prog 74=true:=by kernel_rfl
theorem LZ:ig prog 9 16=true:=by kernel_rfl
theorem BH {a:Option Addr} {c:Nat} {s:ByteArray} {ss:List ByteArray} {F:List aE} {h:Heap} {K:Nat→Heap→Option Addr→Nat→Nat→Prop} (hb:ss.length<1000000)
  (H:aD (aL 9 1 a ss.length c (ss.map Value.string)::F) h) (hK:∀ b3 a2 c2 h2,aD (aL 9 1 a2 (ss++[s]).length c2 ((ss++[s]).map Value.string)::F) h2→K b3 h2 a2 (ss++[s]).length c2) :
  Al h (.cells #[.string s] 9) fun b3 h1=>aX prog (append_ #[74,74] 74 #[.slice a ss.length c,.slice (some (Addr.mk b3 0 none)) 1 1]) h1 fun r h2=>aT r fun ya yl yc=>K b3 h2 ya yl yc:=by
 refine aQ H fun b3 h1 H1=>?_
 refine jS (b:=16) (ys:=[.string s]) Ny JA LZ (H1.mv 1) (ce (n:=1) (c:=1) (ln H1 rfl) rfl) (by simp [Value.oneCell']) (by omega) fun a2 c2 h2 _ H2=>?_
 rw [aF]
 have e:ss.map Value.string++[.string s]=(ss++[s]).map Value.string:=by rw [map_append]; rfl
 have e2:ss.length+1=(ss++[s]).length:=by rw [am,length_singleton]
 rw [e2] at H2 ⊢
 rw [e] at H2
 exact hK b3 a2 c2 h2 ((H2.mv 1).drop)
end Go.Proofs.YtmemjbiijclbdaaGreat
