/-
 DERIVED: THE SHELF's CONTRACTS AT THIS DUMP,IN PLAIN WORDS (tools/lay-plain.mjs out of 'YtmemjbiijclbdaaGreatTrySortI.lean',which tools/lay-shelf.mjs wrote): THE SAME DECLARATIONS UNDER THE SAME YtmemjbiijclbdaaGreatS: 'import','namespace','open','def','theorem' AND NOTHING ELSE: no command of the shelf's: FOR A HAND-IN. Each laying: the table of numbers ('.._ren') and one theorem,a field a fact of the dump's own or the kernel's comparison; each contract: ONE APPLICATION.
-/
import Derived.Shelf.SlGeneric
import Derived.Shelf.SortM.Plain
import Derived.Shelf.SortM.SortNone
import Derived.Shelf.SlMaps.Clone
import Derived.Ground.SlgmProg
import Derived.Ground.SlmcProg
import Derived.Test.YtmemjbiijclbdaaGreatProg
namespace Go.Proofs
open Go.Shelf
def Tryz.sortI232_ren:Go.Shelf.Ren:=⟨fun | 5=>150 | 8=>168 | 7=>186 | 19=>198 | 20=>199 | 10=>203 | 11=>204 | 12=>205 | 13=>206 | 14=>207 | 15=>208 | 16=>209 | 17=>210 | 18=>211 | 30=>218 | 31=>213 | 32=>214 | 33=>219 | 34=>220 | 35=>221 | 40=>223 | n=>n,fun | 23=>128 | 25=>2 | 3=>3 | 32=>103 | 22=>128 | 0=>0 | 44=>227 | 46=>166 | 4=>4 | 36=>256 | 35=>255 | 41=>260 | 5=>5 | 9=>9 | 53=>272 | 57=>275 | 63=>279 | 64=>185 | n=>n,fun | n=>n⟩
theorem Tryz.sortI232:Go.Proofs.SlLaysM.n5 prog Tryz.sortI232_ren:={
 mixed:=by kernel_rfl
 f5:=⟨Tryz.f150.name,by decide,Tryz.func150.trans (congrArg some (by kernel_rfl))⟩
 f7:=⟨Tryz.f186.name,by decide,Tryz.func186.trans (congrArg some (by kernel_rfl))⟩
 f8:=Tryz.func168.trans (congrArg some (by kernel_rfl))
 f10:=⟨Tryz.f203.name,by decide,Tryz.func203.trans (congrArg some (by kernel_rfl))⟩
 f11:=⟨Tryz.f204.name,by decide,Tryz.func204.trans (congrArg some (by kernel_rfl))⟩
 f12:=⟨Tryz.f205.name,by decide,Tryz.func205.trans (congrArg some (by kernel_rfl))⟩
 f13:=⟨Tryz.f206.name,by decide,Tryz.func206.trans (congrArg some (by kernel_rfl))⟩
 f14:=⟨Tryz.f207.name,by decide,Tryz.func207.trans (congrArg some (by kernel_rfl))⟩
 f15:=⟨Tryz.f208.name,by decide,Tryz.func208.trans (congrArg some (by kernel_rfl))⟩
 f16:=⟨Tryz.f209.name,by decide,Tryz.func209.trans (congrArg some (by kernel_rfl))⟩
 f17:=⟨Tryz.f210.name,by decide,Tryz.func210.trans (congrArg some (by kernel_rfl))⟩
 f18:=⟨Tryz.f211.name,by decide,Tryz.func211.trans (congrArg some (by kernel_rfl))⟩
 f19:=Tryz.func198.trans (congrArg some (by kernel_rfl))
 f20:=Tryz.func199.trans (congrArg some (by kernel_rfl))
 f30:=⟨Tryz.f218.name,by decide,Tryz.func218.trans (congrArg some (by kernel_rfl))⟩
 f31:=Tryz.func213.trans (congrArg some (by kernel_rfl))
 f32:=Tryz.func214.trans (congrArg some (by kernel_rfl))
 f33:=⟨Tryz.f219.name,by decide,Tryz.func219.trans (congrArg some (by kernel_rfl))⟩
 f34:=⟨Tryz.f220.name,by decide,Tryz.func220.trans (congrArg some (by kernel_rfl))⟩
 f35:=⟨Tryz.f221.name,by decide,Tryz.func221.trans (congrArg some (by kernel_rfl))⟩
 f40:=⟨Tryz.f223.name,by decide,Tryz.func223.trans (congrArg some (by kernel_rfl))⟩
 t0:=Tryz.underlying0
 a0:=Tryz.isAgg0
 z0:=Tryz.sizeOf0
 v0:=Tryz.zeroValue0
 t3:=Tryz.underlying3
 a3:=Tryz.isAgg3
 z3:=Tryz.sizeOf3
 v3:=Tryz.zeroValue3
 t4:=Tryz.underlying4
 a4:=Tryz.isAgg4
 z4:=Tryz.sizeOf4
 v4:=Tryz.zeroValue4
 t5:=Tryz.underlying5
 a5:=Tryz.isAgg5
 z5:=Tryz.sizeOf5
 v5:=Tryz.zeroValue5
 t9:=Tryz.underlying9
 a9:=Tryz.isAgg9
 z9:=Tryz.sizeOf9
 v9:=Tryz.zeroValue9
 t22:=Tryz.underlying128
 a22:=Tryz.isAgg128
 z22:=Tryz.sizeOf128
 v22:=Tryz.zeroValue128
 t23:=Tryz.underlying128
 a23:=Tryz.isAgg128
 z23:=Tryz.sizeOf128
 v23:=Tryz.zeroValue128
 t25:=Tryz.underlying2
 a25:=Tryz.isAgg2
 z25:=Tryz.sizeOf2
 v25:=Tryz.zeroValue2
 t32:=Tryz.underlying103
 a32:=Tryz.isAgg103
 z32:=Tryz.sizeOf103
 v32:=Tryz.zeroValue103
 t35:=Tryz.underlying255
 a35:=Tryz.isAgg255
 z35:=Tryz.sizeOf255
 v35:=Tryz.zeroValue255
 t36:=Tryz.underlying256
 a36:=Tryz.isAgg256
 z36:=Tryz.sizeOf256
 v36:=Tryz.zeroValue256
 t41:=Tryz.underlying260
 a41:=Tryz.isAgg260
 z41:=Tryz.sizeOf260
 v41:=Tryz.zeroValue260
 t44:=Tryz.underlying227
 a44:=Tryz.isAgg227
 z44:=Tryz.sizeOf227
 v44:=Tryz.zeroValue227
 t46:=Tryz.underlying166
 a46:=Tryz.isAgg166
 z46:=Tryz.sizeOf166
 v46:=Tryz.zeroValue166
 t53:=Tryz.underlying272
 a53:=Tryz.isAgg272
 z53:=Tryz.sizeOf272
 v53:=Tryz.zeroValue272
 t57:=Tryz.underlying275
 a57:=Tryz.isAgg275
 z57:=Tryz.sizeOf275
 v57:=Tryz.zeroValue275
 t63:=Tryz.underlying279
 a63:=Tryz.isAgg279
 z63:=Tryz.sizeOf279
 v63:=Tryz.zeroValue279
 t64:=Tryz.underlying185
 a64:=Tryz.isAgg185
 z64:=Tryz.sizeOf185
 v64:=Tryz.zeroValue185 }
open Go.RowKit Go.Sort in
theorem Tryz.slices_Sort_int150 (blk off cap:Nat) (zs:List Int) (w:World) (hH:Holds (Value.int .i64) w blk off zs.toArray) (hblk:blk<w.heap.size) (hsz:zs.length<4611686018427387904) :
 Calls prog 150 #[.slice (some ⟨blk,off,none⟩) zs.length cap] w fun e w'=>
  e=.returned (.tuple #[])∧∃ n os,w'=grow (putRow (Value.int .i64) (Sort.ahead w n) blk off (zs.mergeSort fun x y=>decide (x≤y)).toArray) os:=AnyM.slices_Sort_int Tryz.sortI232 blk off cap zs w hH hblk hsz
open Go.RowKit in
theorem Tryz.slices_Sort_int150_none (p:Option Addr) (cap:Nat) (w:World) :
 Calls prog 150 #[.slice p 0 cap] w fun e w'=>e=.returned (.tuple #[])∧w'=w:=AnyM.slices_Sort_int_none Tryz.sortI232 p cap w
def Tryz.cloneM191_ren:Go.Shelf.Ren:=⟨fun | 5=>103 | 7=>111 | n=>n,fun | 23=>78 | 25=>2 | 3=>31 | 4=>4 | 20=>20 | n=>n,fun | n=>n⟩
theorem Tryz.cloneM191:Go.Proofs.SlLaysW.n5 prog Tryz.cloneM191_ren:={
 mixed:=by kernel_rfl
 f5:=⟨Tryz.f103.name,by decide,Tryz.func103.trans (congrArg some (by kernel_rfl))⟩
 f7:=Tryz.func111.trans (congrArg some (by kernel_rfl))
 t4:=Tryz.underlying4
 a4:=Tryz.isAgg4
 z4:=Tryz.sizeOf4
 v4:=Tryz.zeroValue4
 t20:=Tryz.underlying20
 a20:=Tryz.isAgg20
 z20:=Tryz.sizeOf20
 v20:=Tryz.zeroValue20
 t23:=Tryz.underlying78
 a23:=Tryz.isAgg78
 z23:=Tryz.sizeOf78
 v23:=Tryz.zeroValue78 }
open Go.RowKit in
theorem Tryz.maps_Clone103 (b:Nat) (es:Array MapEntry) (clock:Nat) (w:World) (hb:w.heap[b]? = some (.map es clock)) :
 Calls prog 103 #[.map (some b)] w fun e w'=>e=.returned (.map (some w.heap.size))∧w'=w.alloc (.map es clock):=AnyW.maps_Clone Tryz.cloneM191 b es clock w hb
end Go.Proofs
