/-
  DERIVED: THE SHELF's CONTRACTS AT THIS DUMP, IN PLAIN WORDS (tools/lay-plain.mjs out of 'TryShelf.lean', which tools/lay-shelf.mjs wrote): THE SAME DECLARATIONS UNDER THE SAME YtfpdejkcjijmmaaS: 'import', 'namespace', 'open', 'def', 'theorem' AND NOTHING ELSE: no command of the shelf's: FOR A HAND-IN. Each laying: the table of numbers ('.._ren') and one theorem, a field a fact of the dump's own or the kernel's comparison; each contract: ONE APPLICATION.
-/
import Derived.Shelf.Small.Bits
import Derived.Shelf.Small.Strs
import Derived.Shelf.Strconv.Itoa0
import Derived.Shelf.Strings.Search1
import Derived.Shelf.Sort.Plain
import Derived.Shelf.Slices.Turned
import Derived.Shelf.Slices.In.SortNone
import Derived.Test.YtfpdejkcjijmmaaProg
namespace Go.Proofs
open Go.Shelf
open Go.RowKit in
open Go.RowKit Go.Lib in
def Try.lays190_ren : Go.Shelf.Ren := ⟨fun | 190 => 66 | 125 => 58 | 258 => 102 | 128 => 77 | 129 => 78 | 302 => 119 | 303 => 120 | 304 => 121 | 305 => 122 | 306 => 123 | 307 => 124 | 308 => 53 | 309 => 125 | 310 => 126 | 333 => 132 | 329 => 104 | 330 => 105 | 334 => 133 | 335 => 134 | 336 => 68 | 344 => 135 | n => n, fun | 31 => 80 | 9 => 9 | 3 => 3 | 46 => 120 | 0 => 0 | 51 => 139 | 53 => 141 | 4 => 4 | 183 => 133 | 182 => 132 | 131 => 85 | 5 => 5 | 218 => 157 | 222 => 161 | 228 => 177 | 229 => 178 | n => n, fun | n => n⟩
theorem Try.lays190 : Go.Proofs.Lays.n190 Try.prog Try.lays190_ren := {
  mixed := by kernel_rfl
  f125 := Try.func58.trans (congrArg some (by kernel_rfl))
  f128 := Try.func77.trans (congrArg some (by kernel_rfl))
  f129 := Try.func78.trans (congrArg some (by kernel_rfl))
  f190 := Try.func66.trans (congrArg some (by kernel_rfl))
  f258 := Try.func102.trans (congrArg some (by kernel_rfl))
  f302 := Try.func119.trans (congrArg some (by kernel_rfl))
  f303 := Try.func120.trans (congrArg some (by kernel_rfl))
  f304 := Try.func121.trans (congrArg some (by kernel_rfl))
  f305 := Try.func122.trans (congrArg some (by kernel_rfl))
  f306 := Try.func123.trans (congrArg some (by kernel_rfl))
  f307 := Try.func124.trans (congrArg some (by kernel_rfl))
  f308 := Try.func53.trans (congrArg some (by kernel_rfl))
  f309 := Try.func125.trans (congrArg some (by kernel_rfl))
  f310 := Try.func126.trans (congrArg some (by kernel_rfl))
  f329 := Try.func104.trans (congrArg some (by kernel_rfl))
  f330 := Try.func105.trans (congrArg some (by kernel_rfl))
  f333 := Try.func132.trans (congrArg some (by kernel_rfl))
  f334 := Try.func133.trans (congrArg some (by kernel_rfl))
  f335 := Try.func134.trans (congrArg some (by kernel_rfl))
  f336 := Try.func68.trans (congrArg some (by kernel_rfl))
  f344 := Try.func135.trans (congrArg some (by kernel_rfl))
  t0 := Try.underlying0
  a0 := Try.isAgg0
  z0 := Try.sizeOf0
  v0 := Try.zeroValue0
  t3 := Try.underlying3
  a3 := Try.isAgg3
  z3 := Try.sizeOf3
  v3 := Try.zeroValue3
  t4 := Try.underlying4
  a4 := Try.isAgg4
  z4 := Try.sizeOf4
  v4 := Try.zeroValue4
  t5 := Try.underlying5
  a5 := Try.isAgg5
  z5 := Try.sizeOf5
  v5 := Try.zeroValue5
  t9 := Try.underlying9
  a9 := Try.isAgg9
  z9 := Try.sizeOf9
  v9 := Try.zeroValue9
  t31 := Try.underlying80
  a31 := Try.isAgg80
  z31 := Try.sizeOf80
  v31 := Try.zeroValue80
  t46 := Try.underlying120
  a46 := Try.isAgg120
  z46 := Try.sizeOf120
  v46 := Try.zeroValue120
  t51 := Try.underlying139
  a51 := Try.isAgg139
  z51 := Try.sizeOf139
  v51 := Try.zeroValue139
  t53 := Try.underlying141
  a53 := Try.isAgg141
  z53 := Try.sizeOf141
  v53 := Try.zeroValue141
  t131 := Try.underlying85
  a131 := Try.isAgg85
  z131 := Try.sizeOf85
  v131 := Try.zeroValue85
  t182 := Try.underlying132
  a182 := Try.isAgg132
  z182 := Try.sizeOf132
  v182 := Try.zeroValue132
  t183 := Try.underlying133
  a183 := Try.isAgg133
  z183 := Try.sizeOf133
  v183 := Try.zeroValue133
  t218 := Try.underlying157
  a218 := Try.isAgg157
  z218 := Try.sizeOf157
  v218 := Try.zeroValue157
  t222 := Try.underlying161
  a222 := Try.isAgg161
  z222 := Try.sizeOf161
  v222 := Try.zeroValue161
  t228 := Try.underlying177
  a228 := Try.isAgg177
  z228 := Try.sizeOf177
  v228 := Try.zeroValue177
  t229 := Try.underlying178
  a229 := Try.isAgg178
  z229 := Try.sizeOf178
  v229 := Try.zeroValue178 }
open Go.Sort Go.RowKit in
theorem Try.slices_Sort_string (blk off cap : Nat) (ss : List (List UInt8)) (w : World) (hH : Holds encStr w blk off ss.toArray) (hblk : blk < w.heap.size) (hsz : ss.length < 4611686018427387904) :
    Calls Try.prog 66 #[.slice (some ⟨blk, off, none⟩) ss.length cap] w fun e w' =>
      e = .returned (.tuple #[]) ∧ ∃ n os, w' = grow (putRow encStr (Sort.ahead w n) blk off (ss.mergeSort fun x y => decide (x ≤ y)).toArray) os := Any.slices_Sort_string Try.lays190 blk off cap ss w hH hblk hsz
open Go.Lib in
open Go.Lib in
open Go.Lib in
open Go.Lib in
open Go.RowKit Go.Sort in
/-- .. and plain. (LAID: no walk: one application.) -/
theorem Try.slices_Sort_string_none (p : Option Addr) (cap : Nat) (w : World) :
    Calls Try.prog 66 #[.slice p 0 cap] w fun e w' => e = .returned (.tuple #[]) ∧ w' = w := Any.slices_Sort_string_none Try.lays190 p cap w
end Go.Proofs
