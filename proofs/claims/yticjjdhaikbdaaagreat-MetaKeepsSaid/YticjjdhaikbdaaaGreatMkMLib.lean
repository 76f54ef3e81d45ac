/-
  DERIVED: THE SHELF's CONTRACTS AT THIS DUMP, IN PLAIN WORDS (tools/lay-plain.mjs out of 'TrySortI.lean', which tools/lay-shelf.mjs wrote): THE SAME DECLARATIONS UNDER THE SAME NAMES: 'import', 'namespace', 'open', 'def', 'theorem' AND NOTHING ELSE: no command of the shelf's: FOR A HAND-IN. Each laying: the table of numbers ('.._ren') and one theorem, a field a fact of the dump's own or the kernel's comparison; each contract: ONE APPLICATION.
-/
import Derived.Shelf.SlGeneric
import Derived.Shelf.SortM.Plain
import Derived.Shelf.SortM.SortNone
import Derived.Shelf.SlMaps.Clone
import Derived.Ground.SlgmProg
import Derived.Ground.SlmcProg
import Derived.Test.YticjjdhaikbdaaaGreatProg
namespace Go.Proofs
open Go.Shelf
def Tryz.sortI176_ren : Go.Shelf.Ren := ⟨fun | 5 => 176 | 8 => 183 | 7 => 191 | 19 => 202 | 20 => 203 | 10 => 206 | 11 => 207 | 12 => 208 | 13 => 209 | 14 => 210 | 15 => 211 | 16 => 212 | 17 => 213 | 18 => 214 | 30 => 221 | 31 => 216 | 32 => 217 | 33 => 222 | 34 => 223 | 35 => 224 | 40 => 226 | n => n, fun | 23 => 166 | 25 => 2 | 3 => 3 | 32 => 151 | 22 => 166 | 0 => 0 | 44 => 181 | 46 => 179 | 4 => 4 | 36 => 261 | 35 => 260 | 41 => 265 | 5 => 5 | 9 => 9 | 53 => 277 | 57 => 280 | 63 => 284 | 64 => 48 | n => n, fun | n => n⟩
theorem Tryz.sortI176 : Go.Proofs.SlLaysM.n5 Tryz.prog Tryz.sortI176_ren := {
  mixed := by kernel_rfl
  f5 := ⟨Tryz.f176.name, by decide, Tryz.func176.trans (congrArg some (by kernel_rfl))⟩
  f7 := ⟨Tryz.f191.name, by decide, Tryz.func191.trans (congrArg some (by kernel_rfl))⟩
  f8 := Tryz.func183.trans (congrArg some (by kernel_rfl))
  f10 := ⟨Tryz.f206.name, by decide, Tryz.func206.trans (congrArg some (by kernel_rfl))⟩
  f11 := ⟨Tryz.f207.name, by decide, Tryz.func207.trans (congrArg some (by kernel_rfl))⟩
  f12 := ⟨Tryz.f208.name, by decide, Tryz.func208.trans (congrArg some (by kernel_rfl))⟩
  f13 := ⟨Tryz.f209.name, by decide, Tryz.func209.trans (congrArg some (by kernel_rfl))⟩
  f14 := ⟨Tryz.f210.name, by decide, Tryz.func210.trans (congrArg some (by kernel_rfl))⟩
  f15 := ⟨Tryz.f211.name, by decide, Tryz.func211.trans (congrArg some (by kernel_rfl))⟩
  f16 := ⟨Tryz.f212.name, by decide, Tryz.func212.trans (congrArg some (by kernel_rfl))⟩
  f17 := ⟨Tryz.f213.name, by decide, Tryz.func213.trans (congrArg some (by kernel_rfl))⟩
  f18 := ⟨Tryz.f214.name, by decide, Tryz.func214.trans (congrArg some (by kernel_rfl))⟩
  f19 := Tryz.func202.trans (congrArg some (by kernel_rfl))
  f20 := Tryz.func203.trans (congrArg some (by kernel_rfl))
  f30 := ⟨Tryz.f221.name, by decide, Tryz.func221.trans (congrArg some (by kernel_rfl))⟩
  f31 := Tryz.func216.trans (congrArg some (by kernel_rfl))
  f32 := Tryz.func217.trans (congrArg some (by kernel_rfl))
  f33 := ⟨Tryz.f222.name, by decide, Tryz.func222.trans (congrArg some (by kernel_rfl))⟩
  f34 := ⟨Tryz.f223.name, by decide, Tryz.func223.trans (congrArg some (by kernel_rfl))⟩
  f35 := ⟨Tryz.f224.name, by decide, Tryz.func224.trans (congrArg some (by kernel_rfl))⟩
  f40 := ⟨Tryz.f226.name, by decide, Tryz.func226.trans (congrArg some (by kernel_rfl))⟩
  t0 := Tryz.underlying0
  a0 := Tryz.isAgg0
  z0 := Tryz.sizeOf0
  v0 := Tryz.zeroValue0
  t3 := Tryz.underlying3
  a3 := Tryz.isAgg3
  z3 := Tryz.sizeOf3
  v3 := Tryz.zeroValue3
  t4 := Tryz.underlying4
  a4 := Tryz.isAgg4
  z4 := Tryz.sizeOf4
  v4 := Tryz.zeroValue4
  t5 := Tryz.underlying5
  a5 := Tryz.isAgg5
  z5 := Tryz.sizeOf5
  v5 := Tryz.zeroValue5
  t9 := Tryz.underlying9
  a9 := Tryz.isAgg9
  z9 := Tryz.sizeOf9
  v9 := Tryz.zeroValue9
  t22 := Tryz.underlying166
  a22 := Tryz.isAgg166
  z22 := Tryz.sizeOf166
  v22 := Tryz.zeroValue166
  t23 := Tryz.underlying166
  a23 := Tryz.isAgg166
  z23 := Tryz.sizeOf166
  v23 := Tryz.zeroValue166
  t25 := Tryz.underlying2
  a25 := Tryz.isAgg2
  z25 := Tryz.sizeOf2
  v25 := Tryz.zeroValue2
  t32 := Tryz.underlying151
  a32 := Tryz.isAgg151
  z32 := Tryz.sizeOf151
  v32 := Tryz.zeroValue151
  t35 := Tryz.underlying260
  a35 := Tryz.isAgg260
  z35 := Tryz.sizeOf260
  v35 := Tryz.zeroValue260
  t36 := Tryz.underlying261
  a36 := Tryz.isAgg261
  z36 := Tryz.sizeOf261
  v36 := Tryz.zeroValue261
  t41 := Tryz.underlying265
  a41 := Tryz.isAgg265
  z41 := Tryz.sizeOf265
  v41 := Tryz.zeroValue265
  t44 := Tryz.underlying181
  a44 := Tryz.isAgg181
  z44 := Tryz.sizeOf181
  v44 := Tryz.zeroValue181
  t46 := Tryz.underlying179
  a46 := Tryz.isAgg179
  z46 := Tryz.sizeOf179
  v46 := Tryz.zeroValue179
  t53 := Tryz.underlying277
  a53 := Tryz.isAgg277
  z53 := Tryz.sizeOf277
  v53 := Tryz.zeroValue277
  t57 := Tryz.underlying280
  a57 := Tryz.isAgg280
  z57 := Tryz.sizeOf280
  v57 := Tryz.zeroValue280
  t63 := Tryz.underlying284
  a63 := Tryz.isAgg284
  z63 := Tryz.sizeOf284
  v63 := Tryz.zeroValue284
  t64 := Tryz.underlying48
  a64 := Tryz.isAgg48
  z64 := Tryz.sizeOf48
  v64 := Tryz.zeroValue48 }
open Go.RowKit Go.Sort in
/-- slices.Sort of int64s. -/
theorem Tryz.slices_Sort_int176 (blk off cap : Nat) (zs : List Int) (w : World) (hH : Holds (Value.int .i64) w blk off zs.toArray) (hblk : blk < w.heap.size) (hsz : zs.length < 4611686018427387904) :
    Calls Tryz.prog 176 #[.slice (some ⟨blk, off, none⟩) zs.length cap] w fun e w' =>
      e = .returned (.tuple #[]) ∧ ∃ n os, w' = grow (putRow (Value.int .i64) (Sort.ahead w n) blk off (zs.mergeSort fun x y => decide (x ≤ y)).toArray) os := AnyM.slices_Sort_int Tryz.sortI176 blk off cap zs w hH hblk hsz
open Go.RowKit in
/-- slices.Sort of no int64s. -/
theorem Tryz.slices_Sort_int176_none (p : Option Addr) (cap : Nat) (w : World) :
    Calls Tryz.prog 176 #[.slice p 0 cap] w fun e w' => e = .returned (.tuple #[]) ∧ w' = w := AnyM.slices_Sort_int_none Tryz.sortI176 p cap w
def Tryz.cloneM147_ren : Go.Shelf.Ren := ⟨fun | 5 => 147 | 7 => 154 | n => n, fun | 23 => 129 | 25 => 2 | 3 => 40 | 4 => 4 | 20 => 20 | n => n, fun | n => n⟩
theorem Tryz.cloneM147 : Go.Proofs.SlLaysW.n5 Tryz.prog Tryz.cloneM147_ren := {
  mixed := by kernel_rfl
  f5 := ⟨Tryz.f147.name, by decide, Tryz.func147.trans (congrArg some (by kernel_rfl))⟩
  f7 := Tryz.func154.trans (congrArg some (by kernel_rfl))
  t4 := Tryz.underlying4
  a4 := Tryz.isAgg4
  z4 := Tryz.sizeOf4
  v4 := Tryz.zeroValue4
  t20 := Tryz.underlying20
  a20 := Tryz.isAgg20
  z20 := Tryz.sizeOf20
  v20 := Tryz.zeroValue20
  t23 := Tryz.underlying129
  a23 := Tryz.isAgg129
  z23 := Tryz.sizeOf129
  v23 := Tryz.zeroValue129 }
open Go.RowKit in
/-- maps.Clone: a new block with the old entries. -/
theorem Tryz.maps_Clone147 (b : Nat) (es : Array MapEntry) (clock : Nat) (w : World) (hb : w.heap[b]? = some (.map es clock)) :
    Calls Tryz.prog 147 #[.map (some b)] w fun e w' => e = .returned (.map (some w.heap.size)) ∧ w' = w.alloc (.map es clock) := AnyW.maps_Clone Tryz.cloneM147 b es clock w hb
end Go.Proofs
