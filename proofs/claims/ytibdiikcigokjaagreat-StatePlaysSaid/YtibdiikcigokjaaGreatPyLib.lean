/-
 DERIVED: THE SHELF's CONTRACTS AT THIS DUMP,IN PLAIN WORDS (tools/lay-plain.mjs out of 'TryShelf.lean',which tools/lay-shelf.mjs wrote): THE SAME DECLARATIONS UNDER THE SAME YtibdiikcigokjaaGreatS: 'import','namespace','open','def','theorem' AND NOTHING ELSE: no command of the shelf's: FOR A HAND-IN. Each laying: the table of numbers ('.._ren') and one theorem,a field a fact of the dump's own or the kernel's comparison; each contract: ONE APPLICATION.
-/
import Derived.Shelf.Small.Bits
import Derived.Shelf.Small.Strs
import Derived.Shelf.Strconv.Itoa0
import Derived.Shelf.Strings.Search1
import Derived.Shelf.Sort.Plain
import Derived.Shelf.Slices.Turned
import Derived.Shelf.Slices.In.SortNone
import Derived.Test.YtibdiikcigokjaaGreatProg
namespace Go.Proofs
open Go.Shelf
def Tryz.lays137_ren:Go.Shelf.Ren:=⟨fun | 137=>112 | 217=>160 | 266=>202 | n=>n,fun | 9=>9 | 5=>5 | 3=>3 | n=>n,fun | n=>n⟩
theorem Tryz.lays137:Go.Proofs.Lays.n137 prog Tryz.lays137_ren:={
 mixed:=by kernel_rfl
 f137:=Tryz.func112.trans (congrArg some (by kernel_rfl))
 f217:=Tryz.func160.trans (congrArg some (by kernel_rfl))
 f266:=Tryz.func202.trans (congrArg some (by kernel_rfl))
 t3:=Tryz.underlying3
 a3:=Tryz.isAgg3
 z3:=Tryz.sizeOf3
 v3:=Tryz.zeroValue3
 t5:=Tryz.underlying5
 a5:=Tryz.isAgg5
 z5:=Tryz.sizeOf5
 v5:=Tryz.zeroValue5
 t9:=Tryz.underlying9
 a9:=Tryz.isAgg9
 z9:=Tryz.sizeOf9
 v9:=Tryz.zeroValue9 }
open Go.RowKit in
theorem Tryz.strings_IndexByte (s:ByteArray) (c:Int) (w:World) :
 Calls prog 112 #[.string s,.int .u8 c] w fun e w'=>e=.returned (.int .i64 (Lib.indexByte s.data.toList c.toNat.toUInt8))∧w'=w:=Any.strings_IndexByte Tryz.lays137 s c w
def Tryz.lays217_ren:Go.Shelf.Ren:=⟨fun | 217=>160 | 266=>202 | n=>n,fun | 9=>9 | 5=>5 | 3=>3 | n=>n,fun | n=>n⟩
theorem Tryz.lays217:Go.Proofs.Lays.n217 prog Tryz.lays217_ren:={
 mixed:=by kernel_rfl
 f217:=Tryz.func160.trans (congrArg some (by kernel_rfl))
 f266:=Tryz.func202.trans (congrArg some (by kernel_rfl))
 t3:=Tryz.underlying3
 a3:=Tryz.isAgg3
 z3:=Tryz.sizeOf3
 v3:=Tryz.zeroValue3
 t5:=Tryz.underlying5
 a5:=Tryz.isAgg5
 z5:=Tryz.sizeOf5
 v5:=Tryz.zeroValue5
 t9:=Tryz.underlying9
 a9:=Tryz.isAgg9
 z9:=Tryz.sizeOf9
 v9:=Tryz.zeroValue9 }
def Tryz.lays190_ren:Go.Shelf.Ren:=⟨fun | 190=>130 | 125=>125 | 258=>185 | 128=>180 | 129=>181 | 302=>232 | 303=>233 | 304=>234 | 305=>235 | 306=>236 | 307=>237 | 308=>215 | 309=>238 | 310=>239 | 333=>251 | 329=>228 | 330=>229 | 334=>252 | 335=>253 | 336=>245 | 344=>255 | n=>n,fun | 31=>97 | 9=>9 | 3=>3 | 46=>51 | 0=>0 | 51=>254 | 53=>187 | 4=>4 | 183=>248 | 182=>247 | 131=>241 | 5=>5 | 218=>286 | 222=>289 | 228=>301 | 229=>204 | n=>n,fun | n=>n⟩
theorem Tryz.lays190:Go.Proofs.Lays.n190 prog Tryz.lays190_ren:={
 mixed:=by kernel_rfl
 f125:=Tryz.func125.trans (congrArg some (by kernel_rfl))
 f128:=Tryz.func180.trans (congrArg some (by kernel_rfl))
 f129:=Tryz.func181.trans (congrArg some (by kernel_rfl))
 f190:=Tryz.func130.trans (congrArg some (by kernel_rfl))
 f258:=Tryz.func185.trans (congrArg some (by kernel_rfl))
 f302:=Tryz.func232.trans (congrArg some (by kernel_rfl))
 f303:=Tryz.func233.trans (congrArg some (by kernel_rfl))
 f304:=Tryz.func234.trans (congrArg some (by kernel_rfl))
 f305:=Tryz.func235.trans (congrArg some (by kernel_rfl))
 f306:=Tryz.func236.trans (congrArg some (by kernel_rfl))
 f307:=Tryz.func237.trans (congrArg some (by kernel_rfl))
 f308:=Tryz.func215.trans (congrArg some (by kernel_rfl))
 f309:=Tryz.func238.trans (congrArg some (by kernel_rfl))
 f310:=Tryz.func239.trans (congrArg some (by kernel_rfl))
 f329:=Tryz.func228.trans (congrArg some (by kernel_rfl))
 f330:=Tryz.func229.trans (congrArg some (by kernel_rfl))
 f333:=Tryz.func251.trans (congrArg some (by kernel_rfl))
 f334:=Tryz.func252.trans (congrArg some (by kernel_rfl))
 f335:=Tryz.func253.trans (congrArg some (by kernel_rfl))
 f336:=Tryz.func245.trans (congrArg some (by kernel_rfl))
 f344:=Tryz.func255.trans (congrArg some (by kernel_rfl))
 t0:=Tryz.underlying0
 a0:=Tryz.isAgg0
 z0:=Tryz.sizeOf0
 v0:=Tryz.zeroValue0
 t3:=Tryz.underlying3
 a3:=Tryz.isAgg3
 z3:=Tryz.sizeOf3
 v3:=Tryz.zeroValue3
 t4:=Tryz.underlying4
 a4:=Tryz.isAgg4
 z4:=Tryz.sizeOf4
 v4:=Tryz.zeroValue4
 t5:=Tryz.underlying5
 a5:=Tryz.isAgg5
 z5:=Tryz.sizeOf5
 v5:=Tryz.zeroValue5
 t9:=Tryz.underlying9
 a9:=Tryz.isAgg9
 z9:=Tryz.sizeOf9
 v9:=Tryz.zeroValue9
 t31:=Tryz.underlying97
 a31:=Tryz.isAgg97
 z31:=Tryz.sizeOf97
 v31:=Tryz.zeroValue97
 t46:=Tryz.underlying51
 a46:=Tryz.isAgg51
 z46:=Tryz.sizeOf51
 v46:=Tryz.zeroValue51
 t51:=Tryz.underlying254
 a51:=Tryz.isAgg254
 z51:=Tryz.sizeOf254
 v51:=Tryz.zeroValue254
 t53:=Tryz.underlying187
 a53:=Tryz.isAgg187
 z53:=Tryz.sizeOf187
 v53:=Tryz.zeroValue187
 t131:=Tryz.underlying241
 a131:=Tryz.isAgg241
 z131:=Tryz.sizeOf241
 v131:=Tryz.zeroValue241
 t182:=Tryz.underlying247
 a182:=Tryz.isAgg247
 z182:=Tryz.sizeOf247
 v182:=Tryz.zeroValue247
 t183:=Tryz.underlying248
 a183:=Tryz.isAgg248
 z183:=Tryz.sizeOf248
 v183:=Tryz.zeroValue248
 t218:=Tryz.underlying286
 a218:=Tryz.isAgg286
 z218:=Tryz.sizeOf286
 v218:=Tryz.zeroValue286
 t222:=Tryz.underlying289
 a222:=Tryz.isAgg289
 z222:=Tryz.sizeOf289
 v222:=Tryz.zeroValue289
 t228:=Tryz.underlying301
 a228:=Tryz.isAgg301
 z228:=Tryz.sizeOf301
 v228:=Tryz.zeroValue301
 t229:=Tryz.underlying204
 a229:=Tryz.isAgg204
 z229:=Tryz.sizeOf204
 v229:=Tryz.zeroValue204 }
open Go.Sort Go.RowKit in
theorem Tryz.slices_Sort_string (blk off cap:Nat) (ss:List (List UInt8)) (w:World) (hH:Holds encStr w blk off ss.toArray) (hblk:blk<w.heap.size) (hsz:ss.length<4611686018427387904) :
 Calls prog 130 #[.slice (some ⟨blk,off,none⟩) ss.length cap] w fun e w'=>
  e=.returned (.tuple #[])∧∃ n os,w'=grow (putRow encStr (Sort.ahead w n) blk off (ss.mergeSort fun x y=>decide (x≤y)).toArray) os:=Any.slices_Sort_string Tryz.lays190 blk off cap ss w hH hblk hsz
def Tryz.lays109_ren:Go.Shelf.Ren:=⟨fun | 109=>243 | n=>n,fun | 31=>97 | 9=>9 | 3=>3 | 0=>0 | 4=>4 | n=>n,fun | n=>n⟩
theorem Tryz.lays109:Go.Proofs.Lays.n109 prog Tryz.lays109_ren:={
 mixed:=by kernel_rfl
 f109:=Tryz.func243.trans (congrArg some (by kernel_rfl))
 t0:=Tryz.underlying0
 a0:=Tryz.isAgg0
 z0:=Tryz.sizeOf0
 v0:=Tryz.zeroValue0
 t3:=Tryz.underlying3
 a3:=Tryz.isAgg3
 z3:=Tryz.sizeOf3
 v3:=Tryz.zeroValue3
 t4:=Tryz.underlying4
 a4:=Tryz.isAgg4
 z4:=Tryz.sizeOf4
 v4:=Tryz.zeroValue4
 t9:=Tryz.underlying9
 a9:=Tryz.isAgg9
 z9:=Tryz.sizeOf9
 v9:=Tryz.zeroValue9
 t31:=Tryz.underlying97
 a31:=Tryz.isAgg97
 z31:=Tryz.sizeOf97
 v31:=Tryz.zeroValue97 }
def Tryz.lays110_ren:Go.Shelf.Ren:=⟨fun | 110=>212 | 109=>243 | n=>n,fun | 31=>97 | 9=>9 | 4=>4 | 3=>3 | 0=>0 | n=>n,fun | n=>n⟩
theorem Tryz.lays110:Go.Proofs.Lays.n110 prog Tryz.lays110_ren:={
 mixed:=by kernel_rfl
 f109:=Tryz.func243.trans (congrArg some (by kernel_rfl))
 f110:=Tryz.func212.trans (congrArg some (by kernel_rfl))
 t0:=Tryz.underlying0
 a0:=Tryz.isAgg0
 z0:=Tryz.sizeOf0
 v0:=Tryz.zeroValue0
 t3:=Tryz.underlying3
 a3:=Tryz.isAgg3
 z3:=Tryz.sizeOf3
 v3:=Tryz.zeroValue3
 t4:=Tryz.underlying4
 a4:=Tryz.isAgg4
 z4:=Tryz.sizeOf4
 v4:=Tryz.zeroValue4
 t9:=Tryz.underlying9
 a9:=Tryz.isAgg9
 z9:=Tryz.sizeOf9
 v9:=Tryz.zeroValue9
 t31:=Tryz.underlying97
 a31:=Tryz.isAgg97
 z31:=Tryz.sizeOf97
 v31:=Tryz.zeroValue97 }
open Go.RowKit Go.Sort in
theorem Tryz.slices_Sort_string_none (p:Option Addr) (cap:Nat) (w:World) :
 Calls prog 130 #[.slice p 0 cap] w fun e w'=>e=.returned (.tuple #[])∧w'=w:=Any.slices_Sort_string_none Tryz.lays190 p cap w
end Go.Proofs
