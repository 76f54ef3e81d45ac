/-
 DERIVED: THE SHELF's CONTRACTS AT THIS DUMP, IN PLAIN WORDS (tools/lay-plain.mjs out of 'YtibdiikcigokjaaGreatDoorTrySortI.lean', which tools/lay-shelf.mjs wrote): THE SAME DECLARATIONS UNDER THE SAME NAMES: 'import', 'namespace', 'open', 'def', 'theorem' AND NOTHING ELSE: no command of the shelf's: FOR A HAND-IN. Each laying: the table of numbers ('.._ren') and one theorem, a field a fact of the dump's own or the kernel's comparison; each contract: ONE APPLICATION.
-/
import Derived.Shelf.SlGeneric
import Derived.Shelf.SortM.Plain
import Derived.Shelf.SortM.SortNone
import Derived.Shelf.SlMaps.Clone
import Derived.Ground.SlgmProg
import Derived.Ground.SlmcProg
import Derived.Test.YtibdiikcigokjaaGreatDoorProg
namespace Go.Proofs
open Go.Shelf
def Tryz.sortI232_ren : Go.Shelf.Ren := ⟨fun | 5 => 232 | 8 => 218 | 7 => 253 | 19 => 250 | 20 => 251 | 10 => 269 | 11 => 270 | 12 => 271 | 13 => 272 | 14 => 273 | 15 => 274 | 16 => 275 | 17 => 276 | 18 => 277 | 30 => 286 | 31 => 264 | 32 => 265 | 33 => 287 | 34 => 288 | 35 => 289 | 40 => 295 | n => n, fun | 23 => 240 | 25 => 2 | 3 => 3 | 32 => 43 | 22 => 240 | 0 => 0 | 44 => 99 | 46 => 201 | 4 => 4 | 36 => 332 | 35 => 331 | 41 => 337 | 5 => 5 | 9 => 9 | 53 => 353 | 57 => 356 | 63 => 365 | 64 => 246 | n => n, fun | n => n⟩
theorem Tryz.sortI232 : Go.Proofs.SlLaysM.n5 Tryz.prog Tryz.sortI232_ren := {
 mixed := by kernel_rfl
 f5 := ⟨Tryz.f232.name, by decide, Tryz.func232.trans (congrArg some (by kernel_rfl))⟩
 f7 := ⟨Tryz.f253.name, by decide, Tryz.func253.trans (congrArg some (by kernel_rfl))⟩
 f8 := Tryz.func218.trans (congrArg some (by kernel_rfl))
 f10 := ⟨Tryz.f269.name, by decide, Tryz.func269.trans (congrArg some (by kernel_rfl))⟩
 f11 := ⟨Tryz.f270.name, by decide, Tryz.func270.trans (congrArg some (by kernel_rfl))⟩
 f12 := ⟨Tryz.f271.name, by decide, Tryz.func271.trans (congrArg some (by kernel_rfl))⟩
 f13 := ⟨Tryz.f272.name, by decide, Tryz.func272.trans (congrArg some (by kernel_rfl))⟩
 f14 := ⟨Tryz.f273.name, by decide, Tryz.func273.trans (congrArg some (by kernel_rfl))⟩
 f15 := ⟨Tryz.f274.name, by decide, Tryz.func274.trans (congrArg some (by kernel_rfl))⟩
 f16 := ⟨Tryz.f275.name, by decide, Tryz.func275.trans (congrArg some (by kernel_rfl))⟩
 f17 := ⟨Tryz.f276.name, by decide, Tryz.func276.trans (congrArg some (by kernel_rfl))⟩
 f18 := ⟨Tryz.f277.name, by decide, Tryz.func277.trans (congrArg some (by kernel_rfl))⟩
 f19 := Tryz.func250.trans (congrArg some (by kernel_rfl))
 f20 := Tryz.func251.trans (congrArg some (by kernel_rfl))
 f30 := ⟨Tryz.f286.name, by decide, Tryz.func286.trans (congrArg some (by kernel_rfl))⟩
 f31 := Tryz.func264.trans (congrArg some (by kernel_rfl))
 f32 := Tryz.func265.trans (congrArg some (by kernel_rfl))
 f33 := ⟨Tryz.f287.name, by decide, Tryz.func287.trans (congrArg some (by kernel_rfl))⟩
 f34 := ⟨Tryz.f288.name, by decide, Tryz.func288.trans (congrArg some (by kernel_rfl))⟩
 f35 := ⟨Tryz.f289.name, by decide, Tryz.func289.trans (congrArg some (by kernel_rfl))⟩
 f40 := ⟨Tryz.f295.name, by decide, Tryz.func295.trans (congrArg some (by kernel_rfl))⟩
 t0 := Tryz.underlying0
 a0 := Tryz.isAgg0
 z0 := Tryz.sizeOf0
 v0 := Tryz.zeroValue0
 t3 := Tryz.underlying3
 a3 := Tryz.isAgg3
 z3 := Tryz.sizeOf3
 v3 := Tryz.zeroValue3
 t4 := Tryz.underlying4
 a4 := Tryz.isAgg4
 z4 := Tryz.sizeOf4
 v4 := Tryz.zeroValue4
 t5 := Tryz.underlying5
 a5 := Tryz.isAgg5
 z5 := Tryz.sizeOf5
 v5 := Tryz.zeroValue5
 t9 := Tryz.underlying9
 a9 := Tryz.isAgg9
 z9 := Tryz.sizeOf9
 v9 := Tryz.zeroValue9
 t22 := Tryz.underlying240
 a22 := Tryz.isAgg240
 z22 := Tryz.sizeOf240
 v22 := Tryz.zeroValue240
 t23 := Tryz.underlying240
 a23 := Tryz.isAgg240
 z23 := Tryz.sizeOf240
 v23 := Tryz.zeroValue240
 t25 := Tryz.underlying2
 a25 := Tryz.isAgg2
 z25 := Tryz.sizeOf2
 v25 := Tryz.zeroValue2
 t32 := Tryz.underlying43
 a32 := Tryz.isAgg43
 z32 := Tryz.sizeOf43
 v32 := Tryz.zeroValue43
 t35 := Tryz.underlying331
 a35 := Tryz.isAgg331
 z35 := Tryz.sizeOf331
 v35 := Tryz.zeroValue331
 t36 := Tryz.underlying332
 a36 := Tryz.isAgg332
 z36 := Tryz.sizeOf332
 v36 := Tryz.zeroValue332
 t41 := Tryz.underlying337
 a41 := Tryz.isAgg337
 z41 := Tryz.sizeOf337
 v41 := Tryz.zeroValue337
 t44 := Tryz.underlying99
 a44 := Tryz.isAgg99
 z44 := Tryz.sizeOf99
 v44 := Tryz.zeroValue99
 t46 := Tryz.underlying201
 a46 := Tryz.isAgg201
 z46 := Tryz.sizeOf201
 v46 := Tryz.zeroValue201
 t53 := Tryz.underlying353
 a53 := Tryz.isAgg353
 z53 := Tryz.sizeOf353
 v53 := Tryz.zeroValue353
 t57 := Tryz.underlying356
 a57 := Tryz.isAgg356
 z57 := Tryz.sizeOf356
 v57 := Tryz.zeroValue356
 t63 := Tryz.underlying365
 a63 := Tryz.isAgg365
 z63 := Tryz.sizeOf365
 v63 := Tryz.zeroValue365
 t64 := Tryz.underlying246
 a64 := Tryz.isAgg246
 z64 := Tryz.sizeOf246
 v64 := Tryz.zeroValue246 }
open Go.RowKit Go.Sort in
theorem Tryz.slices_Sort_int232 (blk off cap : Nat) (zs : List Int) (w : World) (hH : Holds (Value.int .i64) w blk off zs.toArray) (hblk : blk < w.heap.size) (hsz : zs.length < 4611686018427387904) :
 Calls Tryz.prog 232 #[.slice (some ⟨blk, off, none⟩) zs.length cap] w fun e w' =>
  e = .returned (.tuple #[]) ∧ ∃ n os, w' = grow (putRow (Value.int .i64) (Sort.ahead w n) blk off (zs.mergeSort fun x y => decide (x ≤ y)).toArray) os := AnyM.slices_Sort_int Tryz.sortI232 blk off cap zs w hH hblk hsz
open Go.RowKit in
theorem Tryz.slices_Sort_int232_none (p : Option Addr) (cap : Nat) (w : World) :
 Calls Tryz.prog 232 #[.slice p 0 cap] w fun e w' => e = .returned (.tuple #[]) ∧ w' = w := AnyM.slices_Sort_int_none Tryz.sortI232 p cap w
def Tryz.cloneM191_ren : Go.Shelf.Ren := ⟨fun | 5 => 191 | 7 => 150 | n => n, fun | 23 => 214 | 25 => 2 | 3 => 85 | 4 => 4 | 20 => 20 | n => n, fun | n => n⟩
theorem Tryz.cloneM191 : Go.Proofs.SlLaysW.n5 Tryz.prog Tryz.cloneM191_ren := {
 mixed := by kernel_rfl
 f5 := ⟨Tryz.f191.name, by decide, Tryz.func191.trans (congrArg some (by kernel_rfl))⟩
 f7 := Tryz.func150.trans (congrArg some (by kernel_rfl))
 t4 := Tryz.underlying4
 a4 := Tryz.isAgg4
 z4 := Tryz.sizeOf4
 v4 := Tryz.zeroValue4
 t20 := Tryz.underlying20
 a20 := Tryz.isAgg20
 z20 := Tryz.sizeOf20
 v20 := Tryz.zeroValue20
 t23 := Tryz.underlying214
 a23 := Tryz.isAgg214
 z23 := Tryz.sizeOf214
 v23 := Tryz.zeroValue214 }
open Go.RowKit in
theorem Tryz.maps_Clone191 (b : Nat) (es : Array MapEntry) (clock : Nat) (w : World) (hb : w.heap[b]? = some (.map es clock)) :
 Calls Tryz.prog 191 #[.map (some b)] w fun e w' => e = .returned (.map (some w.heap.size)) ∧ w' = w.alloc (.map es clock) := AnyW.maps_Clone Tryz.cloneM191 b es clock w hb
end Go.Proofs
