/-
  DERIVED: THE SHELF's CONTRACTS AT THIS DUMP, IN PLAIN WORDS (tools/lay-plain.mjs out of 'YtibdiikcigokjaaGreatTrySortS.lean', which tools/lay-shelf.mjs wrote): THE SAME DECLARATIONS UNDER THE SAME NAMES: 'import', 'namespace', 'open', 'def', 'theorem' AND NOTHING ELSE: no command of the shelf's: FOR A HAND-IN. Each laying: the table of numbers ('.._ren') and one theorem, a field a fact of the dump's own or the kernel's comparison; each contract: ONE APPLICATION.
-/
import Derived.Shelf.SlGeneric
import Derived.Shelf.Small.Strs
import Derived.Shelf.SlSortCmp.WholeK
import Derived.Shelf.SlSortCmp.NoneTotal
import Derived.Ground.SlsfProg
import Derived.Test.YtibdiikcigokjaaGreatProg
namespace Go.Proofs
open Go.Shelf
open Go.RowKit in
def Tryz.lays106_ren : Go.Shelf.Ren := ⟨fun | 106 => 58 | 213 => 126 | 265 => 182 | n => n, fun | 9 => 9 | 3 => 3 | n => n, fun | n => n⟩
theorem Tryz.lays106 : Go.Proofs.Lays.n106 Tryz.prog Tryz.lays106_ren := {
  mixed := by kernel_rfl
  f106 := Tryz.func58.trans (congrArg some (by kernel_rfl))
  f213 := Tryz.func126.trans (congrArg some (by kernel_rfl))
  f265 := Tryz.func182.trans (congrArg some (by kernel_rfl))
  t3 := Tryz.underlying3
  a3 := Tryz.isAgg3
  z3 := Tryz.sizeOf3
  v3 := Tryz.zeroValue3
  t9 := Tryz.underlying9
  a9 := Tryz.isAgg9
  z9 := Tryz.sizeOf9
  v9 := Tryz.zeroValue9 }
open Go.RowKit in
/-- strings.Compare. -/
theorem Tryz.strings_Compare (a b : ByteArray) (w : World) :
    Calls Tryz.prog 58 #[.string a, .string b] w fun e w' => e = .returned (.int .i64 (Lib.compareBytes a.data.toList b.data.toList)) ∧ w' = w := Any.strings_Compare Tryz.lays106 a b w
def Tryz.sortF56_ren : Go.Shelf.Ren := ⟨fun | 6 => 56 | 15 => 125 | 14 => 124 | 28 => 180 | 29 => 181 | 20 => 172 | 21 => 173 | 22 => 174 | 23 => 175 | 24 => 176 | 25 => 177 | 26 => 178 | 27 => 179 | 46 => 227 | 47 => 228 | 48 => 229 | 49 => 230 | 50 => 231 | 57 => 250 | n => n, fun | 22 => 43 | 24 => 103 | 25 => 123 | 3 => 3 | 39 => 51 | 0 => 0 | 53 => 254 | 55 => 187 | 4 => 4 | 46 => 248 | 45 => 247 | 50 => 241 | 5 => 5 | 9 => 9 | 66 => 286 | 70 => 289 | 76 => 301 | 77 => 204 | n => n, fun | n => n⟩
theorem Tryz.sortF56 : Go.Proofs.SlLaysF0.n6 Tryz.prog Tryz.sortF56_ren := {
  mixed := by kernel_rfl
  f6 := ⟨Tryz.f56.name, by decide, Tryz.func56.trans (congrArg some (by kernel_rfl))⟩
  f14 := ⟨Tryz.f124.name, by decide, Tryz.func124.trans (congrArg some (by kernel_rfl))⟩
  f15 := Tryz.func125.trans (congrArg some (by kernel_rfl))
  f20 := ⟨Tryz.f172.name, by decide, Tryz.func172.trans (congrArg some (by kernel_rfl))⟩
  f21 := ⟨Tryz.f173.name, by decide, Tryz.func173.trans (congrArg some (by kernel_rfl))⟩
  f22 := ⟨Tryz.f174.name, by decide, Tryz.func174.trans (congrArg some (by kernel_rfl))⟩
  f23 := ⟨Tryz.f175.name, by decide, Tryz.func175.trans (congrArg some (by kernel_rfl))⟩
  f24 := ⟨Tryz.f176.name, by decide, Tryz.func176.trans (congrArg some (by kernel_rfl))⟩
  f25 := ⟨Tryz.f177.name, by decide, Tryz.func177.trans (congrArg some (by kernel_rfl))⟩
  f26 := ⟨Tryz.f178.name, by decide, Tryz.func178.trans (congrArg some (by kernel_rfl))⟩
  f27 := ⟨Tryz.f179.name, by decide, Tryz.func179.trans (congrArg some (by kernel_rfl))⟩
  f28 := Tryz.func180.trans (congrArg some (by kernel_rfl))
  f29 := Tryz.func181.trans (congrArg some (by kernel_rfl))
  f46 := ⟨Tryz.f227.name, by decide, Tryz.func227.trans (congrArg some (by kernel_rfl))⟩
  f47 := Tryz.func228.trans (congrArg some (by kernel_rfl))
  f48 := Tryz.func229.trans (congrArg some (by kernel_rfl))
  f49 := ⟨Tryz.f230.name, by decide, Tryz.func230.trans (congrArg some (by kernel_rfl))⟩
  f50 := ⟨Tryz.f231.name, by decide, Tryz.func231.trans (congrArg some (by kernel_rfl))⟩
  f57 := ⟨Tryz.f250.name, by decide, Tryz.func250.trans (congrArg some (by kernel_rfl))⟩
  t0 := Tryz.underlying0
  a0 := Tryz.isAgg0
  z0 := Tryz.sizeOf0
  v0 := Tryz.zeroValue0
  t3 := Tryz.underlying3
  a3 := Tryz.isAgg3
  z3 := Tryz.sizeOf3
  v3 := Tryz.zeroValue3
  t4 := Tryz.underlying4
  a4 := Tryz.isAgg4
  z4 := Tryz.sizeOf4
  v4 := Tryz.zeroValue4
  t5 := Tryz.underlying5
  a5 := Tryz.isAgg5
  z5 := Tryz.sizeOf5
  v5 := Tryz.zeroValue5
  t9 := Tryz.underlying9
  a9 := Tryz.isAgg9
  z9 := Tryz.sizeOf9
  v9 := Tryz.zeroValue9
  t22 := Tryz.underlying43
  a22 := Tryz.isAgg43
  z22 := Tryz.sizeOf43
  v22 := Tryz.zeroValue43
  t25 := Tryz.underlying123
  a25 := Tryz.isAgg123
  z25 := Tryz.sizeOf123
  v25 := Tryz.zeroValue123
  t39 := Tryz.underlying51
  a39 := Tryz.isAgg51
  z39 := Tryz.sizeOf51
  v39 := Tryz.zeroValue51
  t45 := Tryz.underlying247
  a45 := Tryz.isAgg247
  z45 := Tryz.sizeOf247
  v45 := Tryz.zeroValue247
  t46 := Tryz.underlying248
  a46 := Tryz.isAgg248
  z46 := Tryz.sizeOf248
  v46 := Tryz.zeroValue248
  t50 := Tryz.underlying241
  a50 := Tryz.isAgg241
  z50 := Tryz.sizeOf241
  v50 := Tryz.zeroValue241
  t53 := Tryz.underlying254
  a53 := Tryz.isAgg254
  z53 := Tryz.sizeOf254
  v53 := Tryz.zeroValue254
  t55 := Tryz.underlying187
  a55 := Tryz.isAgg187
  z55 := Tryz.sizeOf187
  v55 := Tryz.zeroValue187
  t66 := Tryz.underlying286
  a66 := Tryz.isAgg286
  z66 := Tryz.sizeOf286
  v66 := Tryz.zeroValue286
  t70 := Tryz.underlying289
  a70 := Tryz.isAgg289
  z70 := Tryz.sizeOf289
  v70 := Tryz.zeroValue289
  t76 := Tryz.underlying301
  a76 := Tryz.isAgg301
  z76 := Tryz.sizeOf301
  v76 := Tryz.zeroValue301
  t77 := Tryz.underlying204
  a77 := Tryz.isAgg204
  z77 := Tryz.sizeOf204
  v77 := Tryz.zeroValue204 }
end Go.Proofs
