/-
 DERIVED: THE SHELF's CONTRACTS AT THIS DUMP,IN PLAIN WORDS (tools/lay-plain.mjs out of 'TryClone.lean',which tools/lay-shelf.mjs wrote): THE SAME DECLARATIONS UNDER THE SAME YtdpaiiibndnanaaGreatDoorS: 'import','namespace','open','def','theorem' AND NOTHING ELSE: no command of the shelf's: FOR A HAND-IN. Each laying: the table of numbers ('.._ren') and one theorem,a field a fact of the dump's own or the kernel's comparison; each contract: ONE APPLICATION.
-/
import Derived.Shelf.SlGeneric
import Derived.Shelf.SlMaps.Clone
import Derived.Ground.SlmcProg
import Derived.Test.YtdpaiiibndnanaaGreatDoorProg
namespace Go.Proofs
open Go.Shelf
def Tryz.cloneM61_ren:Go.Shelf.Ren:=⟨fun | 5=>104 | 7=>142 | n=>n,fun | 23=>174 | 25=>9 | 3=>178 | 4=>4 | 20=>20 | n=>n,fun | n=>n⟩
theorem Tryz.cloneM61:Go.Proofs.SlLaysW.n5 prog Tryz.cloneM61_ren:={
 mixed:=by kernel_rfl
 f5:=⟨Tryz.f104.name,by decide,Tryz.func104.trans (congrArg some (by kernel_rfl))⟩
 f7:=Tryz.func142.trans (congrArg some (by kernel_rfl))
 t4:=Tryz.underlying4
 a4:=Tryz.isAgg4
 z4:=Tryz.sizeOf4
 v4:=Tryz.zeroValue4
 t20:=Tryz.underlying20
 a20:=Tryz.isAgg20
 z20:=Tryz.sizeOf20
 v20:=Tryz.zeroValue20
 t23:=Tryz.underlying174
 a23:=Tryz.isAgg174
 z23:=Tryz.sizeOf174
 v23:=Tryz.zeroValue174 }
theorem Tryz.maps_Clone104 (b:Nat) (es:Array MapEntry) (clock:Nat) (w:World) (hb:w.heap[b]? = some (.map es clock)) :
 Calls prog 104 #[.map (some b)] w fun e w'=>e=.returned (.map (some w.heap.size))∧w'=w.alloc (.map es clock):=AnyW.maps_Clone Tryz.cloneM61 b es clock w hb
end Go.Proofs
