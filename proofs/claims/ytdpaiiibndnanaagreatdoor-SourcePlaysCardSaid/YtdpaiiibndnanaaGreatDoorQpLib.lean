/-
 DERIVED: THE SHELF's CONTRACTS AT THIS DUMP,IN PLAIN WORDS (tools/lay-plain.mjs out of 'TryShelf.lean',which tools/lay-shelf.mjs wrote): THE SAME DECLARATIONS UNDER THE SAME YtdpaiiibndnanaaGreatDoorS: 'import','namespace','open','def','theorem' AND NOTHING ELSE: no command of the shelf's: FOR A HAND-IN. Each laying: the table of numbers ('.._ren') and one theorem,a field a fact of the dump's own or the kernel's comparison; each contract: ONE APPLICATION.
-/
import Derived.Shelf.Small.Bits
import Derived.Shelf.Small.Strs
import Derived.Shelf.Strconv.Itoa0
import Derived.Shelf.Strings.Search1
import Derived.Shelf.Sort.Plain
import Derived.Shelf.Slices.Turned
import Derived.Shelf.Slices.In.SortNone
import Derived.Test.YtdpaiiibndnanaaGreatDoorProg
namespace Go.Proofs
open Go.Shelf
def Tryz.lays137_ren:Go.Shelf.Ren:=⟨fun | 137=>160 | 217=>176 | 266=>193 | n=>n,fun | 9=>9 | 5=>5 | 3=>3 | n=>n,fun | n=>n⟩
theorem Tryz.lays137:Go.Proofs.Lays.n137 prog Tryz.lays137_ren:={
 mixed:=by kernel_rfl
 f137:=Tryz.func160.trans (congrArg some (by kernel_rfl))
 f217:=Tryz.func176.trans (congrArg some (by kernel_rfl))
 f266:=Tryz.func193.trans (congrArg some (by kernel_rfl))
 t3:=Tryz.underlying3
 a3:=Tryz.isAgg3
 z3:=Tryz.sizeOf3
 v3:=Tryz.zeroValue3
 t5:=Tryz.underlying5
 a5:=Tryz.isAgg5
 z5:=Tryz.sizeOf5
 v5:=Tryz.zeroValue5
 t9:=Tryz.underlying9
 a9:=Tryz.isAgg9
 z9:=Tryz.sizeOf9
 v9:=Tryz.zeroValue9 }
open Go.RowKit in
theorem Tryz.strings_IndexByte (s:ByteArray) (c:Int) (w:World) :
 Calls prog 160 #[.string s,.int .u8 c] w fun e w'=>e=.returned (.int .i64 (Lib.indexByte s.data.toList c.toNat.toUInt8))∧w'=w:=Any.strings_IndexByte Tryz.lays137 s c w
def Tryz.lays190_ren:Go.Shelf.Ren:=⟨fun | 190=>144 | 125=>171 | 258=>170 | 128=>192 | 129=>178 | 302=>183 | 303=>184 | 304=>185 | 305=>186 | 306=>187 | 307=>188 | 308=>189 | 309=>190 | 310=>191 | 333=>196 | 329=>197 | 330=>198 | 334=>199 | 335=>200 | 336=>201 | 344=>202 | n=>n,fun | 31=>116 | 9=>9 | 3=>3 | 46=>186 | 0=>0 | 51=>218 | 53=>236 | 4=>4 | 183=>258 | 182=>257 | 131=>262 | 5=>5 | 218=>265 | 222=>269 | 228=>273 | 229=>192 | n=>n,fun | n=>n⟩
theorem Tryz.lays190:Go.Proofs.Lays.n190 prog Tryz.lays190_ren:={
 mixed:=by kernel_rfl
 f125:=Tryz.func171.trans (congrArg some (by kernel_rfl))
 f128:=Tryz.func192.trans (congrArg some (by kernel_rfl))
 f129:=Tryz.func178.trans (congrArg some (by kernel_rfl))
 f190:=Tryz.func144.trans (congrArg some (by kernel_rfl))
 f258:=Tryz.func170.trans (congrArg some (by kernel_rfl))
 f302:=Tryz.func183.trans (congrArg some (by kernel_rfl))
 f303:=Tryz.func184.trans (congrArg some (by kernel_rfl))
 f304:=Tryz.func185.trans (congrArg some (by kernel_rfl))
 f305:=Tryz.func186.trans (congrArg some (by kernel_rfl))
 f306:=Tryz.func187.trans (congrArg some (by kernel_rfl))
 f307:=Tryz.func188.trans (congrArg some (by kernel_rfl))
 f308:=Tryz.func189.trans (congrArg some (by kernel_rfl))
 f309:=Tryz.func190.trans (congrArg some (by kernel_rfl))
 f310:=Tryz.func191.trans (congrArg some (by kernel_rfl))
 f329:=Tryz.func197.trans (congrArg some (by kernel_rfl))
 f330:=Tryz.func198.trans (congrArg some (by kernel_rfl))
 f333:=Tryz.func196.trans (congrArg some (by kernel_rfl))
 f334:=Tryz.func199.trans (congrArg some (by kernel_rfl))
 f335:=Tryz.func200.trans (congrArg some (by kernel_rfl))
 f336:=Tryz.func201.trans (congrArg some (by kernel_rfl))
 f344:=Tryz.func202.trans (congrArg some (by kernel_rfl))
 t0:=Tryz.underlying0
 a0:=Tryz.isAgg0
 z0:=Tryz.sizeOf0
 v0:=Tryz.zeroValue0
 t3:=Tryz.underlying3
 a3:=Tryz.isAgg3
 z3:=Tryz.sizeOf3
 v3:=Tryz.zeroValue3
 t4:=Tryz.underlying4
 a4:=Tryz.isAgg4
 z4:=Tryz.sizeOf4
 v4:=Tryz.zeroValue4
 t5:=Tryz.underlying5
 a5:=Tryz.isAgg5
 z5:=Tryz.sizeOf5
 v5:=Tryz.zeroValue5
 t9:=Tryz.underlying9
 a9:=Tryz.isAgg9
 z9:=Tryz.sizeOf9
 v9:=Tryz.zeroValue9
 t31:=Tryz.underlying116
 a31:=Tryz.isAgg116
 z31:=Tryz.sizeOf116
 v31:=Tryz.zeroValue116
 t46:=Tryz.underlying186
 a46:=Tryz.isAgg186
 z46:=Tryz.sizeOf186
 v46:=Tryz.zeroValue186
 t51:=Tryz.underlying218
 a51:=Tryz.isAgg218
 z51:=Tryz.sizeOf218
 v51:=Tryz.zeroValue218
 t53:=Tryz.underlying236
 a53:=Tryz.isAgg236
 z53:=Tryz.sizeOf236
 v53:=Tryz.zeroValue236
 t131:=Tryz.underlying262
 a131:=Tryz.isAgg262
 z131:=Tryz.sizeOf262
 v131:=Tryz.zeroValue262
 t182:=Tryz.underlying257
 a182:=Tryz.isAgg257
 z182:=Tryz.sizeOf257
 v182:=Tryz.zeroValue257
 t183:=Tryz.underlying258
 a183:=Tryz.isAgg258
 z183:=Tryz.sizeOf258
 v183:=Tryz.zeroValue258
 t218:=Tryz.underlying265
 a218:=Tryz.isAgg265
 z218:=Tryz.sizeOf265
 v218:=Tryz.zeroValue265
 t222:=Tryz.underlying269
 a222:=Tryz.isAgg269
 z222:=Tryz.sizeOf269
 v222:=Tryz.zeroValue269
 t228:=Tryz.underlying273
 a228:=Tryz.isAgg273
 z228:=Tryz.sizeOf273
 v228:=Tryz.zeroValue273
 t229:=Tryz.underlying192
 a229:=Tryz.isAgg192
 z229:=Tryz.sizeOf192
 v229:=Tryz.zeroValue192 }
open Go.Sort Go.RowKit in
theorem Tryz.slices_Sort_string (blk off cap:Nat) (ss:List (List UInt8)) (w:World) (hH:Holds encStr w blk off ss.toArray) (hblk:blk<w.heap.size) (hsz:ss.length<4611686018427387904) :
 Calls prog 144 #[.slice (some ⟨blk,off,none⟩) ss.length cap] w fun e w'=>
  e=.returned (.tuple #[])∧∃ n os,w'=grow (putRow encStr (Sort.ahead w n) blk off (ss.mergeSort fun x y=>decide (x≤y)).toArray) os:=Any.slices_Sort_string Tryz.lays190 blk off cap ss w hH hblk hsz
open Go.RowKit Go.Sort in
theorem Tryz.slices_Sort_string_none (p:Option Addr) (cap:Nat) (w:World) :
 Calls prog 144 #[.slice p 0 cap] w fun e w'=>e=.returned (.tuple #[])∧w'=w:=Any.slices_Sort_string_none Tryz.lays190 p cap w
end Go.Proofs
