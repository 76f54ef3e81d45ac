/-
  DERIVED: THE SHELF's CONTRACTS AT THIS DUMP, IN PLAIN WORDS (tools/lay-plain.mjs out of 'TryShelf.lean', which tools/lay-shelf.mjs wrote): THE SAME DECLARATIONS UNDER THE SAME YticjjdhaikbdaaaS: 'import', 'namespace', 'open', 'def', 'theorem' AND NOTHING ELSE: no command of the shelf's: FOR A HAND-IN. Each laying: the table of numbers ('.._ren') and one theorem, a field a fact of the dump's own or the kernel's comparison; each contract: ONE APPLICATION.
-/
import Derived.Shelf.Small.Bits
import Derived.Shelf.Small.Strs
import Derived.Shelf.Strconv.Itoa0
import Derived.Shelf.Strings.Search1
import Derived.Shelf.Sort.Plain
import Derived.Shelf.Slices.Turned
import Derived.Shelf.Slices.In.SortNone
import Derived.Test.YticjjdhaikbdaaaProg
namespace Go.Proofs
open Go.Shelf
open Go.RowKit in
open Go.RowKit Go.Lib in
def Try.lays190_ren : Go.Shelf.Ren := ⟨fun | 190 => 110 | 125 => 136 | 258 => 135 | 128 => 154 | 129 => 155 | 302 => 145 | 303 => 146 | 304 => 147 | 305 => 148 | 306 => 149 | 307 => 150 | 308 => 151 | 309 => 152 | 310 => 153 | 333 => 156 | 329 => 157 | 330 => 158 | 334 => 159 | 335 => 160 | 336 => 161 | 344 => 162 | n => n, fun | 31 => 41 | 9 => 9 | 3 => 3 | 46 => 100 | 0 => 0 | 51 => 169 | 53 => 126 | 4 => 4 | 183 => 185 | 182 => 184 | 131 => 189 | 5 => 5 | 218 => 193 | 222 => 197 | 228 => 199 | 229 => 149 | n => n, fun | n => n⟩
theorem Try.lays190 : Go.Proofs.Lays.n190 Try.prog Try.lays190_ren := {
  mixed := by kernel_rfl
  f125 := Try.func136.trans (congrArg some (by kernel_rfl))
  f128 := Try.func154.trans (congrArg some (by kernel_rfl))
  f129 := Try.func155.trans (congrArg some (by kernel_rfl))
  f190 := Try.func110.trans (congrArg some (by kernel_rfl))
  f258 := Try.func135.trans (congrArg some (by kernel_rfl))
  f302 := Try.func145.trans (congrArg some (by kernel_rfl))
  f303 := Try.func146.trans (congrArg some (by kernel_rfl))
  f304 := Try.func147.trans (congrArg some (by kernel_rfl))
  f305 := Try.func148.trans (congrArg some (by kernel_rfl))
  f306 := Try.func149.trans (congrArg some (by kernel_rfl))
  f307 := Try.func150.trans (congrArg some (by kernel_rfl))
  f308 := Try.func151.trans (congrArg some (by kernel_rfl))
  f309 := Try.func152.trans (congrArg some (by kernel_rfl))
  f310 := Try.func153.trans (congrArg some (by kernel_rfl))
  f329 := Try.func157.trans (congrArg some (by kernel_rfl))
  f330 := Try.func158.trans (congrArg some (by kernel_rfl))
  f333 := Try.func156.trans (congrArg some (by kernel_rfl))
  f334 := Try.func159.trans (congrArg some (by kernel_rfl))
  f335 := Try.func160.trans (congrArg some (by kernel_rfl))
  f336 := Try.func161.trans (congrArg some (by kernel_rfl))
  f344 := Try.func162.trans (congrArg some (by kernel_rfl))
  t0 := Try.underlying0
  a0 := Try.isAgg0
  z0 := Try.sizeOf0
  v0 := Try.zeroValue0
  t3 := Try.underlying3
  a3 := Try.isAgg3
  z3 := Try.sizeOf3
  v3 := Try.zeroValue3
  t4 := Try.underlying4
  a4 := Try.isAgg4
  z4 := Try.sizeOf4
  v4 := Try.zeroValue4
  t5 := Try.underlying5
  a5 := Try.isAgg5
  z5 := Try.sizeOf5
  v5 := Try.zeroValue5
  t9 := Try.underlying9
  a9 := Try.isAgg9
  z9 := Try.sizeOf9
  v9 := Try.zeroValue9
  t31 := Try.underlying41
  a31 := Try.isAgg41
  z31 := Try.sizeOf41
  v31 := Try.zeroValue41
  t46 := Try.underlying100
  a46 := Try.isAgg100
  z46 := Try.sizeOf100
  v46 := Try.zeroValue100
  t51 := Try.underlying169
  a51 := Try.isAgg169
  z51 := Try.sizeOf169
  v51 := Try.zeroValue169
  t53 := Try.underlying126
  a53 := Try.isAgg126
  z53 := Try.sizeOf126
  v53 := Try.zeroValue126
  t131 := Try.underlying189
  a131 := Try.isAgg189
  z131 := Try.sizeOf189
  v131 := Try.zeroValue189
  t182 := Try.underlying184
  a182 := Try.isAgg184
  z182 := Try.sizeOf184
  v182 := Try.zeroValue184
  t183 := Try.underlying185
  a183 := Try.isAgg185
  z183 := Try.sizeOf185
  v183 := Try.zeroValue185
  t218 := Try.underlying193
  a218 := Try.isAgg193
  z218 := Try.sizeOf193
  v218 := Try.zeroValue193
  t222 := Try.underlying197
  a222 := Try.isAgg197
  z222 := Try.sizeOf197
  v222 := Try.zeroValue197
  t228 := Try.underlying199
  a228 := Try.isAgg199
  z228 := Try.sizeOf199
  v228 := Try.zeroValue199
  t229 := Try.underlying149
  a229 := Try.isAgg149
  z229 := Try.sizeOf149
  v229 := Try.zeroValue149 }
open Go.Sort Go.RowKit in
theorem Try.slices_Sort_string (blk off cap : Nat) (ss : List (List UInt8)) (w : World) (hH : Holds encStr w blk off ss.toArray) (hblk : blk < w.heap.size) (hsz : ss.length < 4611686018427387904) :
    Calls Try.prog 110 #[.slice (some ⟨blk, off, none⟩) ss.length cap] w fun e w' =>
      e = .returned (.tuple #[]) ∧ ∃ n os, w' = grow (putRow encStr (Sort.ahead w n) blk off (ss.mergeSort fun x y => decide (x ≤ y)).toArray) os := Any.slices_Sort_string Try.lays190 blk off cap ss w hH hblk hsz
open Go.Lib in
open Go.Lib in
open Go.Lib in
open Go.Lib in
open Go.RowKit Go.Sort in
/-- .. and plain. (LAID: no walk: one application.) -/
theorem Try.slices_Sort_string_none (p : Option Addr) (cap : Nat) (w : World) :
    Calls Try.prog 110 #[.slice p 0 cap] w fun e w' => e = .returned (.tuple #[]) ∧ w' = w := Any.slices_Sort_string_none Try.lays190 p cap w
end Go.Proofs
