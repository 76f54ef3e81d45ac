/- Helpers out of the segment texts (seat S). -/
import Derived.Test.YtibdiikcigokjaaGreatPyPlA
import Derived.Test.YtibdiikcigokjaaGreatPyFsE
import Derived.Test.YtibdiikcigokjaaGreatPyFpA
namespace Go.Proofs.YtibdiikcigokjaaGreat
open Go.Builtin (append_)
open Go.Proofs.Tryz (prog)
open List (map_append length_singleton)
open Go Go.RowKit
set_option linter.unusedVariables false
set_option linter.unusedSimpArgs false
theorem j9 {x:List Nat} (h8:B8 x):(cn x).size=x.length:=by rw [← aW,bR h8]
theorem ED {h:Heap} {a:Addr} {k:IntKind} {x:Int} {K:Int→Prop} (hv:ck h a=some (.int k x)) (hK:K x):Ld h a fun v=>DI k v K:=⟨_,hv,_,rfl,hK⟩
namespace AF
theorem yU {n:ByteArray} {f:Nat}:∀ {l:bH},(∀ p∈l,dF p.1 n=true)→ins n f l=l++[(n,f)]
 | [],_=>rfl
 | p::l,h=>by
   have h1:=h p (by simp);have h2:p.1≠n:=fun e=>by rw [e] at h1; exact bp _ h1
   have h3:¬ dF n p.1=true:=fun e=>bp _ (bB e h1);rw [ins,ak h2,ak h3,yU fun q hq=>h q (by simp [hq])]
   rfl
end AF
theorem OU:prog.underlying 97=some (.slice 9):=by kernel_rfl
theorem Kv:fF prog 97=true:=by kernel_rfl
theorem Nf:gQ prog 9 16=true:=by kernel_rfl
theorem Ci {a:Option Addr} {c:Nat} {s:ByteArray} {ss:List ByteArray} {F:List aG} {h:Heap} {K:Nat→Heap→Option Addr→Nat→Nat→Prop} (hb:ss.length<1000000)
  (H:aD (aL 9 1 a ss.length c (ss.map Value.string)::F) h) (hK:∀ b3 a2 c2 h2,aD (aL 9 1 a2 (ss++[s]).length c2 ((ss++[s]).map Value.string)::F) h2→K b3 h2 a2 (ss++[s]).length c2) :
  Al h (.cells #[.string s] 9) fun b3 h1=>bi prog (append_ #[97,97] 97 #[.slice a ss.length c,.slice (some (Addr.mk b3 0 none)) 1 1]) h1 fun r h2=>aX r fun ya yl yc=>K b3 h2 ya yl yc:=by
 refine aQ H fun b3 h1 H1=>?_
 refine jH (b:=16) (ys:=[.string s]) OU Kv Nf (H1.mv 1) (bV (n:=1) (c:=1) (lm H1 rfl) rfl) (by simp [Value.oneCell']) (by omega) fun a2 c2 h2 _ H2=>?_
 rw [aF]
 have e:ss.map Value.string++[.string s]=(ss++[s]).map Value.string:=by rw [map_append]; rfl
 have e2:ss.length+1=(ss++[s]).length:=by rw [am,length_singleton]
 rw [e2] at H2 ⊢
 rw [e] at H2
 exact hK b3 a2 c2 h2 ((H2.mv 1).drop)
end Go.Proofs.YtibdiikcigokjaaGreat
