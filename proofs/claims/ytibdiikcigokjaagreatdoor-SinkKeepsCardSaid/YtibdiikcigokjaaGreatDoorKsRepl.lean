/-
 DERIVED: THE SHELF's CONTRACTS AT THIS DUMP, IN PLAIN WORDS (tools/lay-plain.mjs out of 'YtibdiikcigokjaaGreatDoorTryRepl.lean', which tools/lay-shelf.mjs wrote): THE SAME DECLARATIONS UNDER THE SAME NAMES: 'import', 'namespace', 'open', 'def', 'theorem' AND NOTHING ELSE: no command of the shelf's: FOR A HAND-IN. Each laying: the table of numbers ('.._ren') and one theorem, a field a fact of the dump's own or the kernel's comparison; each contract: ONE APPLICATION.
-/
import Derived.Shelf.Strings.Replace
import Derived.Ground.NamesProg
import Derived.Test.YtibdiikcigokjaaGreatDoorProg
namespace Go.Proofs
open Go.Shelf
def Tryz.replA_ren : Go.Shelf.Ren := ⟨fun | 155 => 199 | 154 => 236 | 138 => 256 | 165 => 257 | 143 => 258 | 166 => 259 | 197 => 260 | 169 => 261 | 195 => 279 | 218 => 280 | 240 => 281 | 241 => 282 | 219 => 283 | 260 => 284 | 276 => 290 | 277 => 291 | 217 => 186 | 225 => 292 | 224 => 293 | 267 => 294 | 266 => 230 | 314 => 296 | n => n, fun | 9 => 9 | 3 => 3 | 4 => 4 | 72 => 345 | 0 => 0 | 76 => 349 | 105 => 351 | 21 => 21 | 5 => 5 | 70 => 343 | 20 => 20 | 37 => 85 | 75 => 348 | 127 => 364 | 164 => 369 | 46 => 43 | 119 => 372 | 139 => 375 | 138 => 374 | 146 => 377 | 51 => 99 | 80 => 196 | n => n, fun | 1 => 0 | 3 => 1 | 4 => 2 | n => n⟩
theorem Tryz.replA : Go.Proofs.Lays.n155 Tryz.prog Tryz.replA_ren := {
 mixed := by kernel_rfl
 f138 := Tryz.func256.trans (congrArg some (by kernel_rfl))
 f143 := Tryz.func258.trans (congrArg some (by kernel_rfl))
 f154 := Tryz.func236.trans (congrArg some (by kernel_rfl))
 f155 := Tryz.func199.trans (congrArg some (by kernel_rfl))
 f165 := Tryz.func257.trans (congrArg some (by kernel_rfl))
 f166 := Tryz.func259.trans (congrArg some (by kernel_rfl))
 f169 := Tryz.func261.trans (congrArg some (by kernel_rfl))
 f195 := Tryz.func279.trans (congrArg some (by kernel_rfl))
 f197 := Tryz.func260.trans (congrArg some (by kernel_rfl))
 f217 := Tryz.func186.trans (congrArg some (by kernel_rfl))
 f218 := Tryz.func280.trans (congrArg some (by kernel_rfl))
 f219 := Tryz.func283.trans (congrArg some (by kernel_rfl))
 f224 := Tryz.func293.trans (congrArg some (by kernel_rfl))
 f225 := Tryz.func292.trans (congrArg some (by kernel_rfl))
 f240 := Tryz.func281.trans (congrArg some (by kernel_rfl))
 f241 := Tryz.func282.trans (congrArg some (by kernel_rfl))
 f260 := Tryz.func284.trans (congrArg some (by kernel_rfl))
 f266 := Tryz.func230.trans (congrArg some (by kernel_rfl))
 f267 := Tryz.func294.trans (congrArg some (by kernel_rfl))
 f276 := Tryz.func290.trans (congrArg some (by kernel_rfl))
 f277 := Tryz.func291.trans (congrArg some (by kernel_rfl))
 f314 := Tryz.func296.trans (congrArg some (by kernel_rfl))
 t0 := Tryz.underlying0
 a0 := Tryz.isAgg0
 z0 := Tryz.sizeOf0
 v0 := Tryz.zeroValue0
 t3 := Tryz.underlying3
 a3 := Tryz.isAgg3
 z3 := Tryz.sizeOf3
 v3 := Tryz.zeroValue3
 t4 := Tryz.underlying4
 a4 := Tryz.isAgg4
 z4 := Tryz.sizeOf4
 v4 := Tryz.zeroValue4
 t5 := Tryz.underlying5
 a5 := Tryz.isAgg5
 z5 := Tryz.sizeOf5
 v5 := Tryz.zeroValue5
 t9 := Tryz.underlying9
 a9 := Tryz.isAgg9
 z9 := Tryz.sizeOf9
 v9 := Tryz.zeroValue9
 t20 := Tryz.underlying20
 a20 := Tryz.isAgg20
 z20 := Tryz.sizeOf20
 v20 := Tryz.zeroValue20
 t21 := Tryz.underlying21
 a21 := Tryz.isAgg21
 z21 := Tryz.sizeOf21
 v21 := Tryz.zeroValue21
 t37 := Tryz.underlying85
 a37 := Tryz.isAgg85
 z37 := Tryz.sizeOf85
 v37 := Tryz.zeroValue85
 t46 := Tryz.underlying43
 a46 := Tryz.isAgg43
 z46 := Tryz.sizeOf43
 v46 := Tryz.zeroValue43
 t51 := Tryz.underlying99
 a51 := Tryz.isAgg99
 z51 := Tryz.sizeOf99
 v51 := Tryz.zeroValue99
 t70 := Tryz.underlying343
 a70 := Tryz.isAgg343
 z70 := Tryz.sizeOf343
 v70 := Tryz.zeroValue343
 t72 := Tryz.underlying345
 a72 := Tryz.isAgg345
 z72 := Tryz.sizeOf345
 v72 := Tryz.zeroValue345
 t75 := Tryz.underlying348
 a75 := Tryz.isAgg348
 z75 := Tryz.sizeOf348
 v75 := Tryz.zeroValue348
 t76 := Tryz.underlying349
 a76 := Tryz.isAgg349
 z76 := Tryz.sizeOf349
 v76 := Tryz.zeroValue349
 t105 := Tryz.underlying351
 a105 := Tryz.isAgg351
 z105 := Tryz.sizeOf351
 v105 := Tryz.zeroValue351
 t119 := Tryz.underlying372
 a119 := Tryz.isAgg372
 z119 := Tryz.sizeOf372
 t127 := Tryz.underlying364
 a127 := Tryz.isAgg364
 z127 := Tryz.sizeOf364
 v127 := Tryz.zeroValue364
 t138 := Tryz.underlying374
 a138 := Tryz.isAgg374
 z138 := Tryz.sizeOf374
 v138 := Tryz.zeroValue374
 t139 := Tryz.underlying375
 a139 := Tryz.isAgg375
 z139 := Tryz.sizeOf375
 v139 := Tryz.zeroValue375
 t146 := Tryz.underlying377
 a146 := Tryz.isAgg377
 z146 := Tryz.sizeOf377
 v146 := Tryz.zeroValue377
 t164 := Tryz.underlying369
 a164 := Tryz.isAgg369
 z164 := Tryz.sizeOf369
 v164 := Tryz.zeroValue369
 g1 := by kernel_rfl
 g3 := by kernel_rfl
 g4 := by kernel_rfl }
open Go.RowKit in
theorem Tryz.extraR : Builder.Extra Tryz.prog Tryz.replA_ren := {
 sizeBuilder := by kernel_rfl
 liesBuilder := by kernel_rfl
 t5 := Tryz.replA.t5
 a5 := Tryz.replA.a5
 z5 := Tryz.replA.z5
 v5 := Tryz.replA.v5
 infoByte := by kernel_rfl
 cellsByte := by kernel_rfl
 sizeByte := by kernel_rfl
 neB5 := by decide }
open Go.RowKit in
theorem Tryz.replAll (s old new : ByteArray) (m : Int) (w : World)
 (hs : s.size < 4294967281) (hm : w.cell? ⟨0, 0, none⟩ = some (.int .i64 m)) (h1 : 1 ≤ old.size) (hlen : s.size + Lib.countB s old * new.size ≤ 140737488355328) :
 Calls Tryz.prog 199 #[.string s, .string old, .string new] w fun e w' =>
  e = .returned (.string ⟨(Lib.replaceAll s.data.toList old.data.toList new.data.toList).toArray⟩) ∧ Below w.heap.size w w' := Any.strings_ReplaceAll Tryz.replA Tryz.extraR s old new m w hs hm h1 hlen
end Go.Proofs
