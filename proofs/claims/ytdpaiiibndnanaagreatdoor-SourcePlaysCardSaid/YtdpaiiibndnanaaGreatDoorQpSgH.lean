/- Helpers out of the segment texts (seat S). -/
import Derived.Test.YtdpaiiibndnanaaGreatDoorQpPlA
import Derived.Test.YtdpaiiibndnanaaGreatDoorQpFsE
import Derived.Test.YtdpaiiibndnanaaGreatDoorQpFpA
import Derived.Test.YtdpaiiibndnanaaGreatDoorQpSgA
namespace Go.Proofs.YtdpaiiibndnanaaGreatDoor
open Go.Builtin (append_)
open Go.Proofs.Tryz (prog)
open List (map_append length_singleton)
open Go Go.RowKit
set_option linter.unusedVariables false
set_option linter.unusedSimpArgs false
theorem HF:prog.underlying 116=some (.slice 9):=by kernel_rfl
theorem yg:d8 prog 116=true:=by kernel_rfl
theorem DC:gj prog 9 16=true:=by kernel_rfl
theorem yC {a:Option Addr} {c:Nat} {s:ByteArray} {ss:List ByteArray} {F:List aF} {h:Heap} {K:Nat→Heap→Option Addr→Nat→Nat→Prop} (hb:ss.length<1000000)
  (H:aG (aQ 9 1 a ss.length c (ss.map Value.string)::F) h) (hK:∀ b3 a2 c2 h2,aG (aQ 9 1 a2 (ss++[s]).length c2 ((ss++[s]).map Value.string)::F) h2→K b3 h2 a2 (ss++[s]).length c2) :
  Al h (.cells #[.string s] 9) fun b3 h1=>bB prog (append_ #[116,116] 116 #[.slice a ss.length c,.slice (some (Addr.mk b3 0 none)) 1 1]) h1 fun r h2=>aZ r fun ya yl yc=>K b3 h2 ya yl yc:=by
 refine aW H fun b3 h1 H1=>?_
 refine gr (b:=16) (ys:=[.string s]) HF yg DC (H1.mv 1) (bJ (n:=1) (c:=1) (ge H1 rfl) rfl) (by simp [Value.oneCell']) (by omega) fun a2 c2 h2 _ H2=>?_
 rw [aI]
 have e:ss.map Value.string++[.string s]=(ss++[s]).map Value.string:=by rw [map_append]; rfl
 have e2:ss.length+1=(ss++[s]).length:=by rw [ao,length_singleton]
 rw [e2] at H2 ⊢
 rw [e] at H2
 exact hK b3 a2 c2 h2 ((H2.mv 1).drop)
end Go.Proofs.YtdpaiiibndnanaaGreatDoor
