/-
 DERIVED: THE SHELF's CONTRACTS AT THIS DUMP,IN PLAIN WORDS (tools/lay-plain.mjs out of 'TryShelf.lean',which tools/lay-shelf.mjs wrote): THE SAME DECLARATIONS UNDER THE SAME YtmemjbiijclbdaaGreatS: 'import','namespace','open','def','theorem' AND NOTHING ELSE: no command of the shelf's: FOR A HAND-IN. Each laying: the table of numbers ('.._ren') and one theorem,a field a fact of the dump's own or the kernel's comparison; each contract: ONE APPLICATION.
-/
import Derived.Shelf.Small.Bits
import Derived.Shelf.Small.Strs
import Derived.Shelf.Strconv.Itoa0
import Derived.Shelf.Strings.Search1
import Derived.Shelf.Sort.Plain
import Derived.Shelf.Slices.Turned
import Derived.Shelf.Slices.In.SortNone
import Derived.Test.YtmemjbiijclbdaaGreatProg
namespace Go.Proofs
open Go.Shelf
def Tryz.lays137_ren:Go.Shelf.Ren:=⟨fun | 137=>142 | 217=>180 | 266=>201 | n=>n,fun | 9=>9 | 5=>5 | 3=>3 | n=>n,fun | n=>n⟩
theorem Tryz.lays137:Go.Proofs.Lays.n137 prog Tryz.lays137_ren:={
 mixed:=by kernel_rfl
 f137:=Tryz.func142.trans (congrArg some (by kernel_rfl))
 f217:=Tryz.func180.trans (congrArg some (by kernel_rfl))
 f266:=Tryz.func201.trans (congrArg some (by kernel_rfl))
 t3:=Tryz.underlying3
 a3:=Tryz.isAgg3
 z3:=Tryz.sizeOf3
 v3:=Tryz.zeroValue3
 t5:=Tryz.underlying5
 a5:=Tryz.isAgg5
 z5:=Tryz.sizeOf5
 v5:=Tryz.zeroValue5
 t9:=Tryz.underlying9
 a9:=Tryz.isAgg9
 z9:=Tryz.sizeOf9
 v9:=Tryz.zeroValue9 }
open Go.RowKit in
theorem Tryz.strings_IndexByte (s:ByteArray) (c:Int) (w:World) :
 Calls prog 142 #[.string s,.int .u8 c] w fun e w'=>e=.returned (.int .i64 (Lib.indexByte s.data.toList c.toNat.toUInt8))∧w'=w:=Any.strings_IndexByte Tryz.lays137 s c w
def Tryz.lays190_ren:Go.Shelf.Ren:=⟨fun | 190=>113 | 125=>168 | 258=>167 | 128=>198 | 129=>199 | 302=>189 | 303=>190 | 304=>191 | 305=>192 | 306=>193 | 307=>194 | 308=>195 | 309=>196 | 310=>197 | 333=>212 | 329=>213 | 330=>214 | 334=>215 | 335=>216 | 336=>217 | 344=>222 | n=>n,fun | 31=>74 | 9=>9 | 3=>3 | 46=>103 | 0=>0 | 51=>227 | 53=>166 | 4=>4 | 183=>256 | 182=>255 | 131=>260 | 5=>5 | 218=>272 | 222=>275 | 228=>279 | 229=>185 | n=>n,fun | n=>n⟩
theorem Tryz.lays190:Go.Proofs.Lays.n190 prog Tryz.lays190_ren:={
 mixed:=by kernel_rfl
 f125:=Tryz.func168.trans (congrArg some (by kernel_rfl))
 f128:=Tryz.func198.trans (congrArg some (by kernel_rfl))
 f129:=Tryz.func199.trans (congrArg some (by kernel_rfl))
 f190:=Tryz.func113.trans (congrArg some (by kernel_rfl))
 f258:=Tryz.func167.trans (congrArg some (by kernel_rfl))
 f302:=Tryz.func189.trans (congrArg some (by kernel_rfl))
 f303:=Tryz.func190.trans (congrArg some (by kernel_rfl))
 f304:=Tryz.func191.trans (congrArg some (by kernel_rfl))
 f305:=Tryz.func192.trans (congrArg some (by kernel_rfl))
 f306:=Tryz.func193.trans (congrArg some (by kernel_rfl))
 f307:=Tryz.func194.trans (congrArg some (by kernel_rfl))
 f308:=Tryz.func195.trans (congrArg some (by kernel_rfl))
 f309:=Tryz.func196.trans (congrArg some (by kernel_rfl))
 f310:=Tryz.func197.trans (congrArg some (by kernel_rfl))
 f329:=Tryz.func213.trans (congrArg some (by kernel_rfl))
 f330:=Tryz.func214.trans (congrArg some (by kernel_rfl))
 f333:=Tryz.func212.trans (congrArg some (by kernel_rfl))
 f334:=Tryz.func215.trans (congrArg some (by kernel_rfl))
 f335:=Tryz.func216.trans (congrArg some (by kernel_rfl))
 f336:=Tryz.func217.trans (congrArg some (by kernel_rfl))
 f344:=Tryz.func222.trans (congrArg some (by kernel_rfl))
 t0:=Tryz.underlying0
 a0:=Tryz.isAgg0
 z0:=Tryz.sizeOf0
 v0:=Tryz.zeroValue0
 t3:=Tryz.underlying3
 a3:=Tryz.isAgg3
 z3:=Tryz.sizeOf3
 v3:=Tryz.zeroValue3
 t4:=Tryz.underlying4
 a4:=Tryz.isAgg4
 z4:=Tryz.sizeOf4
 v4:=Tryz.zeroValue4
 t5:=Tryz.underlying5
 a5:=Tryz.isAgg5
 z5:=Tryz.sizeOf5
 v5:=Tryz.zeroValue5
 t9:=Tryz.underlying9
 a9:=Tryz.isAgg9
 z9:=Tryz.sizeOf9
 v9:=Tryz.zeroValue9
 t31:=Tryz.underlying74
 a31:=Tryz.isAgg74
 z31:=Tryz.sizeOf74
 v31:=Tryz.zeroValue74
 t46:=Tryz.underlying103
 a46:=Tryz.isAgg103
 z46:=Tryz.sizeOf103
 v46:=Tryz.zeroValue103
 t51:=Tryz.underlying227
 a51:=Tryz.isAgg227
 z51:=Tryz.sizeOf227
 v51:=Tryz.zeroValue227
 t53:=Tryz.underlying166
 a53:=Tryz.isAgg166
 z53:=Tryz.sizeOf166
 v53:=Tryz.zeroValue166
 t131:=Tryz.underlying260
 a131:=Tryz.isAgg260
 z131:=Tryz.sizeOf260
 v131:=Tryz.zeroValue260
 t182:=Tryz.underlying255
 a182:=Tryz.isAgg255
 z182:=Tryz.sizeOf255
 v182:=Tryz.zeroValue255
 t183:=Tryz.underlying256
 a183:=Tryz.isAgg256
 z183:=Tryz.sizeOf256
 v183:=Tryz.zeroValue256
 t218:=Tryz.underlying272
 a218:=Tryz.isAgg272
 z218:=Tryz.sizeOf272
 v218:=Tryz.zeroValue272
 t222:=Tryz.underlying275
 a222:=Tryz.isAgg275
 z222:=Tryz.sizeOf275
 v222:=Tryz.zeroValue275
 t228:=Tryz.underlying279
 a228:=Tryz.isAgg279
 z228:=Tryz.sizeOf279
 v228:=Tryz.zeroValue279
 t229:=Tryz.underlying185
 a229:=Tryz.isAgg185
 z229:=Tryz.sizeOf185
 v229:=Tryz.zeroValue185 }
open Go.Sort Go.RowKit in
theorem Tryz.slices_Sort_string (blk off cap:Nat) (ss:List (List UInt8)) (w:World) (hH:Holds encStr w blk off ss.toArray) (hblk:blk<w.heap.size) (hsz:ss.length<4611686018427387904) :
 Calls prog 113 #[.slice (some ⟨blk,off,none⟩) ss.length cap] w fun e w'=>
  e=.returned (.tuple #[])∧∃ n os,w'=grow (putRow encStr (Sort.ahead w n) blk off (ss.mergeSort fun x y=>decide (x≤y)).toArray) os:=Any.slices_Sort_string Tryz.lays190 blk off cap ss w hH hblk hsz
open Go.RowKit Go.Sort in
theorem Tryz.slices_Sort_string_none (p:Option Addr) (cap:Nat) (w:World) :
 Calls prog 113 #[.slice p 0 cap] w fun e w'=>e=.returned (.tuple #[])∧w'=w:=Any.slices_Sort_string_none Tryz.lays190 p cap w
end Go.Proofs
