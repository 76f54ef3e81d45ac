/-
  DERIVED: THE SHELF's CONTRACTS AT THIS DUMP, IN PLAIN WORDS (tools/lay-plain.mjs out of 'YtibdiikcigokjaaGreatTrySortI.lean', which tools/lay-shelf.mjs wrote): THE SAME DECLARATIONS UNDER THE SAME NAMES: 'import', 'namespace', 'open', 'def', 'theorem' AND NOTHING ELSE: no command of the shelf's: FOR A HAND-IN. Each laying: the table of numbers ('.._ren') and one theorem, a field a fact of the dump's own or the kernel's comparison; each contract: ONE APPLICATION.
-/
import Derived.Shelf.SlGeneric
import Derived.Shelf.SortM.Plain
import Derived.Shelf.SortM.SortNone
import Derived.Ground.SlgmProg
import Derived.Test.YtibdiikcigokjaaGreatProg
namespace Go.Proofs
open Go.Shelf
def Tryz.sortI117_ren : Go.Shelf.Ren := ⟨fun | 5 => 117 | 8 => 125 | 7 => 171 | 19 => 180 | 20 => 181 | 10 => 218 | 11 => 219 | 12 => 220 | 13 => 221 | 14 => 222 | 15 => 223 | 16 => 224 | 17 => 225 | 18 => 226 | 30 => 246 | 31 => 228 | 32 => 229 | 33 => 247 | 34 => 248 | 35 => 249 | 40 => 254 | n => n, fun | 23 => 76 | 25 => 2 | 3 => 3 | 32 => 51 | 22 => 76 | 0 => 0 | 44 => 254 | 46 => 187 | 4 => 4 | 36 => 248 | 35 => 247 | 41 => 241 | 5 => 5 | 9 => 9 | 53 => 286 | 57 => 289 | 63 => 301 | 64 => 204 | n => n, fun | n => n⟩
theorem Tryz.sortI117 : Go.Proofs.SlLaysM.n5 Tryz.prog Tryz.sortI117_ren := {
  mixed := by kernel_rfl
  f5 := ⟨Tryz.f117.name, by decide, Tryz.func117.trans (congrArg some (by kernel_rfl))⟩
  f7 := ⟨Tryz.f171.name, by decide, Tryz.func171.trans (congrArg some (by kernel_rfl))⟩
  f8 := Tryz.func125.trans (congrArg some (by kernel_rfl))
  f10 := ⟨Tryz.f218.name, by decide, Tryz.func218.trans (congrArg some (by kernel_rfl))⟩
  f11 := ⟨Tryz.f219.name, by decide, Tryz.func219.trans (congrArg some (by kernel_rfl))⟩
  f12 := ⟨Tryz.f220.name, by decide, Tryz.func220.trans (congrArg some (by kernel_rfl))⟩
  f13 := ⟨Tryz.f221.name, by decide, Tryz.func221.trans (congrArg some (by kernel_rfl))⟩
  f14 := ⟨Tryz.f222.name, by decide, Tryz.func222.trans (congrArg some (by kernel_rfl))⟩
  f15 := ⟨Tryz.f223.name, by decide, Tryz.func223.trans (congrArg some (by kernel_rfl))⟩
  f16 := ⟨Tryz.f224.name, by decide, Tryz.func224.trans (congrArg some (by kernel_rfl))⟩
  f17 := ⟨Tryz.f225.name, by decide, Tryz.func225.trans (congrArg some (by kernel_rfl))⟩
  f18 := ⟨Tryz.f226.name, by decide, Tryz.func226.trans (congrArg some (by kernel_rfl))⟩
  f19 := Tryz.func180.trans (congrArg some (by kernel_rfl))
  f20 := Tryz.func181.trans (congrArg some (by kernel_rfl))
  f30 := ⟨Tryz.f246.name, by decide, Tryz.func246.trans (congrArg some (by kernel_rfl))⟩
  f31 := Tryz.func228.trans (congrArg some (by kernel_rfl))
  f32 := Tryz.func229.trans (congrArg some (by kernel_rfl))
  f33 := ⟨Tryz.f247.name, by decide, Tryz.func247.trans (congrArg some (by kernel_rfl))⟩
  f34 := ⟨Tryz.f248.name, by decide, Tryz.func248.trans (congrArg some (by kernel_rfl))⟩
  f35 := ⟨Tryz.f249.name, by decide, Tryz.func249.trans (congrArg some (by kernel_rfl))⟩
  f40 := ⟨Tryz.f254.name, by decide, Tryz.func254.trans (congrArg some (by kernel_rfl))⟩
  t0 := Tryz.underlying0
  a0 := Tryz.isAgg0
  z0 := Tryz.sizeOf0
  v0 := Tryz.zeroValue0
  t3 := Tryz.underlying3
  a3 := Tryz.isAgg3
  z3 := Tryz.sizeOf3
  v3 := Tryz.zeroValue3
  t4 := Tryz.underlying4
  a4 := Tryz.isAgg4
  z4 := Tryz.sizeOf4
  v4 := Tryz.zeroValue4
  t5 := Tryz.underlying5
  a5 := Tryz.isAgg5
  z5 := Tryz.sizeOf5
  v5 := Tryz.zeroValue5
  t9 := Tryz.underlying9
  a9 := Tryz.isAgg9
  z9 := Tryz.sizeOf9
  v9 := Tryz.zeroValue9
  t22 := Tryz.underlying76
  a22 := Tryz.isAgg76
  z22 := Tryz.sizeOf76
  v22 := Tryz.zeroValue76
  t23 := Tryz.underlying76
  a23 := Tryz.isAgg76
  z23 := Tryz.sizeOf76
  v23 := Tryz.zeroValue76
  t25 := Tryz.underlying2
  a25 := Tryz.isAgg2
  z25 := Tryz.sizeOf2
  v25 := Tryz.zeroValue2
  t32 := Tryz.underlying51
  a32 := Tryz.isAgg51
  z32 := Tryz.sizeOf51
  v32 := Tryz.zeroValue51
  t35 := Tryz.underlying247
  a35 := Tryz.isAgg247
  z35 := Tryz.sizeOf247
  v35 := Tryz.zeroValue247
  t36 := Tryz.underlying248
  a36 := Tryz.isAgg248
  z36 := Tryz.sizeOf248
  v36 := Tryz.zeroValue248
  t41 := Tryz.underlying241
  a41 := Tryz.isAgg241
  z41 := Tryz.sizeOf241
  v41 := Tryz.zeroValue241
  t44 := Tryz.underlying254
  a44 := Tryz.isAgg254
  z44 := Tryz.sizeOf254
  v44 := Tryz.zeroValue254
  t46 := Tryz.underlying187
  a46 := Tryz.isAgg187
  z46 := Tryz.sizeOf187
  v46 := Tryz.zeroValue187
  t53 := Tryz.underlying286
  a53 := Tryz.isAgg286
  z53 := Tryz.sizeOf286
  v53 := Tryz.zeroValue286
  t57 := Tryz.underlying289
  a57 := Tryz.isAgg289
  z57 := Tryz.sizeOf289
  v57 := Tryz.zeroValue289
  t63 := Tryz.underlying301
  a63 := Tryz.isAgg301
  z63 := Tryz.sizeOf301
  v63 := Tryz.zeroValue301
  t64 := Tryz.underlying204
  a64 := Tryz.isAgg204
  z64 := Tryz.sizeOf204
  v64 := Tryz.zeroValue204 }
open Go.RowKit Go.Sort in
/-- slices.Sort of int64s. -/
theorem Tryz.slices_Sort_int117 (blk off cap : Nat) (zs : List Int) (w : World) (hH : Holds (Value.int .i64) w blk off zs.toArray) (hblk : blk < w.heap.size) (hsz : zs.length < 4611686018427387904) :
    Calls Tryz.prog 117 #[.slice (some ⟨blk, off, none⟩) zs.length cap] w fun e w' =>
      e = .returned (.tuple #[]) ∧ ∃ n os, w' = grow (putRow (Value.int .i64) (Sort.ahead w n) blk off (zs.mergeSort fun x y => decide (x ≤ y)).toArray) os := AnyM.slices_Sort_int Tryz.sortI117 blk off cap zs w hH hblk hsz
open Go.RowKit in
/-- slices.Sort of no int64s. -/
theorem Tryz.slices_Sort_int117_none (p : Option Addr) (cap : Nat) (w : World) :
    Calls Tryz.prog 117 #[.slice p 0 cap] w fun e w' => e = .returned (.tuple #[]) ∧ w' = w := AnyM.slices_Sort_int_none Tryz.sortI117 p cap w
end Go.Proofs
