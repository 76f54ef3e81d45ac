/- The texts over heaps of functions of the program: written by a program of this claim's writer (decomp.py); Lean checks each against the code. -/
import Derived.Test.YtibdiikcigokjaaGreatDoorKfFwA
import Derived.Test.YtibdiikcigokjaaGreatDoorProg
namespace Go.Proofs.YtibdiikcigokjaaGreatDoor
open Go Go.RowKit
set_option linter.unusedVariables false
set_option maxRecDepth 100000

/-- headgate/simfs.New -/
def F14 (room0 : Int) (h : Heap) (Q : Value → Heap → Prop) : Prop :=
 (bif decide ((room0 : Int) < 0) then
  Q (.tuple #[.pointer none, .int .i64 2]) h
 else
  (bif decide ((room0 : Int) > 1073741824) then
   Q (.tuple #[.pointer none, .int .i64 2]) h
  else
   Al h (.map #[] 0) fun b0 h_0 =>
   Al h_0 (.cells #[.int .i64 room0, .int .i64 0, .int .i64 0, .int .i64 (-1), .bool false, .map (some b0)] 120) fun b1 h_1 =>
   Q (.tuple #[.pointer (some (Addr.mk b1 0 none)), .int .i64 0]) h_1))
theorem F14_eq : (fun (room0 : Int) (h : Heap) (Q : Value → Heap → Prop) => fnPT Tryz.prog Tryz.f14 (fun _ => annNil) (fun _ => []) (fun _ => none) [.int .i64 room0] h Q) = F14 := by kernel_rfl
theorem F14_ok {room0 : Int} {h : Heap} {Q : Value → Heap → Prop} (H : F14 room0 h Q) : CallsH Tryz.prog 14 [.int .i64 room0] h Q :=
 callsH_of (ann := fun _ => annNil) (tys := fun _ => []) (pl := fun _ => none) Tryz.func14 (by kernel_rfl) (by have e := F14_eq; exact (congrFun (congrFun (congrFun (e) room0) h) Q).symm ▸ H)

/-- (*headgate/simfs.FS).Mkdir -/
def F78 (f0 : Option Addr) (dir0 : ByteArray) (h : Heap) (Q : Value → Heap → Prop) : Prop :=
 CallsH Tryz.prog 50 [.pointer f0, .string dir0, .slice none 0 0] h fun r0 h_0 =>
 ∃ (x0 : Option Addr), ∃ (x1 : Int), r0 = .tuple #[.pointer x0, .int .i64 x1] ∧
 (bif (x1 : Int) == 0 then
  Q (.int .i64 63) h_0
 else
  (bif (x1 : Int) != 61 then
   Q (.int .i64 x1) h_0
  else
   NN' f0 fun a0 =>
   Ld h_0 (a0.add 5) fun v0 => DM v0 fun x2 =>
   ∃ es0, mapEs h_0 x2 es0 ∧
   (bif decide ((((es0 : Array MapEntry).size : Int) : Int) ≥ 64) then
    Q (.int .i64 66) h_0
   else
    CallsH Tryz.prog 170 [.pointer f0] h_0 fun r1 h_1 =>
    DI .i64 r1 fun e0 =>
    (bif (e0 : Int) != 0 then
     Q (.int .i64 e0) h_1
    else
     NN' f0 fun a1 =>
     Ld h_1 (a1.add 5) fun v1 => DM v1 fun x3 =>
     Al h_1 (.map #[] 0) fun b0 h_2 =>
     Al h_2 (.map #[] 0) fun b1 h_3 =>
     Al h_3 (.cells #[.map (some b0), .map (some b1), .slice none 0 0] 134) fun b2 h_4 =>
     RunU Tryz.prog (Instr.mapUpdate 118 (.map x3) (.string dir0) (.pointer (some (Addr.mk b2 0 none)))) h_4 fun h_5 =>
     Q (.int .i64 0) h_5))))
theorem F78_eq : (fun (f0 : Option Addr) (dir0 : ByteArray) (h : Heap) (Q : Value → Heap → Prop) => fnPT Tryz.prog Tryz.f78 (fun _ => annNil) (fun _ => []) (fun _ => none) [.pointer f0, .string dir0] h Q) = F78 := by kernel_rfl
theorem F78_ok {f0 : Option Addr} {dir0 : ByteArray} {h : Heap} {Q : Value → Heap → Prop} (H : F78 f0 dir0 h Q) : CallsH Tryz.prog 78 [.pointer f0, .string dir0] h Q :=
 callsH_of (ann := fun _ => annNil) (tys := fun _ => []) (pl := fun _ => none) Tryz.func78 (by kernel_rfl) (by have e := F78_eq; exact (congrFun (congrFun (congrFun (congrFun (e) f0) dir0) h) Q).symm ▸ H)

/-- (*headgate/simfs.FS).Create -/
def F79 (f0 : Option Addr) (dir0 : ByteArray) (name0 : ByteArray) (h : Heap) (Q : Value → Heap → Prop) : Prop :=
 Al h (.cells #[.string name0] 9) fun b0 h_0 =>
 Ld h_0 (Addr.mk b0 0 none) fun v0 => DS v0 fun x0 =>
 Al h_0 (.cells #[.string x0] 9) fun b1 h_1 =>
 CallsH Tryz.prog 50 [.pointer f0, .string dir0, .slice (some (Addr.mk b1 0 none)) 1 1] h_1 fun r2 h_2 =>
 ∃ (x1 : Option Addr), ∃ (x2 : Int), r2 = .tuple #[.pointer x1, .int .i64 x2] ∧
 (bif (x2 : Int) != 0 then
  Q (.int .i64 x2) h_2
 else
  NN' x1 fun a0 =>
  Ld h_2 (a0.add 0) fun v1 => DM v1 fun x3 =>
  Ld h_2 (Addr.mk b0 0 none) fun v2 => DS v2 fun x4 =>
  ∃ es0, mapEs h_2 x3 es0 ∧ ∃ f1, Instr.findNow .string (.string x4) (es0 : Array MapEntry).toList 0 = some f1 ∧
  DP ((Option.map (fun x => x.2) f1).getD (.pointer none)) fun x5 =>
  (bif !((x5).isNone) then
   Q (.int .i64 63) h_2
  else
   NN' x1 fun a1 =>
   Ld h_2 (a1.add 0) fun v3 => DM v3 fun x6 =>
   ∃ es1, mapEs h_2 x6 es1 ∧
   (bif decide ((((es1 : Array MapEntry).size : Int) : Int) ≥ 4096) then
    Q (.int .i64 66) h_2
   else
    Al h_2 (.cells #[.slice none 0 0, .int .i64 0] 141) fun b2 h_3 =>
    Al h_3 (.cells #[.pointer none] 131) fun b3 h_4 =>
    StC h_4 ((Addr.mk b3 0 none).add 0) (.pointer (some (Addr.mk b2 0 none))) fun h_6 =>
    CallsH Tryz.prog 171 [.pointer f0, .pointer x1, .func (.func 172) #[] #[.pointer (some (Addr.mk b3 0 none)), .pointer (some (Addr.mk b0 0 none))]] h_6 fun r6 h_7 =>
    DI .i64 r6 fun x7 =>
    Q (.int .i64 x7) h_7)))
theorem F79_eq : (fun (f0 : Option Addr) (dir0 : ByteArray) (name0 : ByteArray) (h : Heap) (Q : Value → Heap → Prop) => fnPT Tryz.prog Tryz.f79 (fun _ => annNil) (fun _ => []) (fun _ => none) [.pointer f0, .string dir0, .string name0] h Q) = F79 := by kernel_rfl
theorem F79_ok {f0 : Option Addr} {dir0 : ByteArray} {name0 : ByteArray} {h : Heap} {Q : Value → Heap → Prop} (H : F79 f0 dir0 name0 h Q) : CallsH Tryz.prog 79 [.pointer f0, .string dir0, .string name0] h Q :=
 callsH_of (ann := fun _ => annNil) (tys := fun _ => []) (pl := fun _ => none) Tryz.func79 (by kernel_rfl) (by have e := F79_eq; exact (congrFun (congrFun (congrFun (congrFun (congrFun (e) f0) dir0) name0) h) Q).symm ▸ H)

/-- (*headgate/simfs.FS).Append -/
def F80 (f0 : Option Addr) (dir0 : ByteArray) (name0 : ByteArray) (b0a : Option Addr) (b0l : Nat) (b0c : Nat) (h : Heap) (Q : Value → Heap → Prop) : Prop :=
 CallsH Tryz.prog 173 [.pointer f0, .string dir0, .string name0] h fun r0 h_0 =>
 ∃ (x0 : Option Addr), ∃ (x1 : Option Addr), ∃ (x2 : Int), r0 = .tuple #[.pointer x0, .pointer x1, .int .i64 x2] ∧
 (bif (x2 : Int) != 0 then
  Q (.int .i64 x2) h_0
 else
  NN' x1 fun a0 =>
  Ld h_0 (a0.add 0) fun v0 => DSl v0 fun x3a x3l x3c =>
  (bif decide (((IntKind.wrap .i64 ((x3l : Int) + (b0l : Int))) : Int) > 16777216) then
   Q (.int .i64 67) h_0
  else
   NN' f0 fun a1 =>
   Ld h_0 (a1.add 1) fun v1 => DI .i64 v1 fun x4 =>
   NN' f0 fun a2 =>
   Ld h_0 (a2.add 0) fun v2 => DI .i64 v2 fun x5 =>
   (bif decide (((IntKind.wrap .i64 (x4 + (b0l : Int))) : Int) > x5) then
    Q (.int .i64 64) h_0
   else
    CallsH Tryz.prog 170 [.pointer f0] h_0 fun r1 h_1 =>
    DI .i64 r1 fun e0 =>
    (bif (e0 : Int) != 0 then
     Q (.int .i64 e0) h_1
    else
     NN' x1 fun a3 =>
     Ld h_1 (a3.add 0) fun v3 => DSl v3 fun x6a x6l x6c =>
     RunH Tryz.prog (Builtin.append_ #[85, 85] 85 #[.slice x6a x6l x6c, .slice b0a b0l b0c]) h_1 fun r2 h_2 =>
     DSl r2 fun x7a x7l x7c =>
     NN' x1 fun a4 =>
     StC h_2 ((a4.add 0).add 0) (.slice x7a x7l x7c) fun h_4 =>
     NN' f0 fun a5 =>
     Ld h_4 (a5.add 1) fun v4 => DI .i64 v4 fun x8 =>
     NN' f0 fun a6 =>
     StC h_4 ((a6.add 1).add 0) (.int .i64 (IntKind.wrap .i64 (x8 + (b0l : Int)))) fun h_6 =>
     Q (.int .i64 0) h_6))))
theorem F80_eq : (fun (f0 : Option Addr) (dir0 : ByteArray) (name0 : ByteArray) (b0a : Option Addr) (b0l : Nat) (b0c : Nat) (h : Heap) (Q : Value → Heap → Prop) => fnPT Tryz.prog Tryz.f80 (fun _ => annNil) (fun _ => []) (fun _ => none) [.pointer f0, .string dir0, .string name0, .slice b0a b0l b0c] h Q) = F80 := by kernel_rfl
theorem F80_ok {f0 : Option Addr} {dir0 : ByteArray} {name0 : ByteArray} {b0a : Option Addr} {b0l : Nat} {b0c : Nat} {h : Heap} {Q : Value → Heap → Prop} (H : F80 f0 dir0 name0 b0a b0l b0c h Q) : CallsH Tryz.prog 80 [.pointer f0, .string dir0, .string name0, .slice b0a b0l b0c] h Q :=
 callsH_of (ann := fun _ => annNil) (tys := fun _ => []) (pl := fun _ => none) Tryz.func80 (by kernel_rfl) (by have e := F80_eq; exact (congrFun (congrFun (congrFun (congrFun (congrFun (congrFun (congrFun (congrFun (e) f0) dir0) name0) b0a) b0l) b0c) h) Q).symm ▸ H)

/-- (*headgate/simfs.FS).Sync -/
def F81 (f0 : Option Addr) (dir0 : ByteArray) (name0 : ByteArray) (h : Heap) (Q : Value → Heap → Prop) : Prop :=
 CallsH Tryz.prog 173 [.pointer f0, .string dir0, .string name0] h fun r0 h_0 =>
 ∃ (x0 : Option Addr), ∃ (x1 : Option Addr), ∃ (x2 : Int), r0 = .tuple #[.pointer x0, .pointer x1, .int .i64 x2] ∧
 (bif (x2 : Int) == 0 then
  CallsH Tryz.prog 170 [.pointer f0] h_0 fun r1 h_1 =>
  DI .i64 r1 fun e0 =>
  (bif (e0 : Int) == 0 then
   NN' x1 fun a0 =>
   Ld h_1 (a0.add 0) fun v0 => DSl v0 fun x3a x3l x3c =>
   NN' x1 fun a1 =>
   StC h_1 ((a1.add 1).add 0) (.int .i64 (x3l : Int)) fun h_3 =>
   Q (.int .i64 e0) h_3
  else
   Q (.int .i64 e0) h_1)
 else
  (bif (x2 : Int) == 0 then
   NN' x1 fun a2 =>
   Ld h_0 (a2.add 0) fun v1 => DSl v1 fun x4a x4l x4c =>
   NN' x1 fun a3 =>
   StC h_0 ((a3.add 1).add 0) (.int .i64 (x4l : Int)) fun h_5 =>
   Q (.int .i64 x2) h_5
  else
   Q (.int .i64 x2) h_0))
theorem F81_eq : (fun (f0 : Option Addr) (dir0 : ByteArray) (name0 : ByteArray) (h : Heap) (Q : Value → Heap → Prop) => fnPT Tryz.prog Tryz.f81 (fun _ => annNil) (fun _ => []) (fun _ => none) [.pointer f0, .string dir0, .string name0] h Q) = F81 := by kernel_rfl
theorem F81_ok {f0 : Option Addr} {dir0 : ByteArray} {name0 : ByteArray} {h : Heap} {Q : Value → Heap → Prop} (H : F81 f0 dir0 name0 h Q) : CallsH Tryz.prog 81 [.pointer f0, .string dir0, .string name0] h Q :=
 callsH_of (ann := fun _ => annNil) (tys := fun _ => []) (pl := fun _ => none) Tryz.func81 (by kernel_rfl) (by have e := F81_eq; exact (congrFun (congrFun (congrFun (congrFun (congrFun (e) f0) dir0) name0) h) Q).symm ▸ H)

/-- (*headgate/simfs.FS).SyncDir -/
def F82 (f0 : Option Addr) (dir0 : ByteArray) (h : Heap) (Q : Value → Heap → Prop) : Prop :=
 CallsH Tryz.prog 50 [.pointer f0, .string dir0, .slice none 0 0] h fun r0 h_0 =>
 ∃ (x0 : Option Addr), ∃ (x1 : Int), r0 = .tuple #[.pointer x0, .int .i64 x1] ∧
 (bif (x1 : Int) == 0 then
  CallsH Tryz.prog 170 [.pointer f0] h_0 fun r1 h_1 =>
  DI .i64 r1 fun e0 =>
  (bif (e0 : Int) == 0 then
   NN' x0 fun a0 =>
   Ld h_1 (a0.add 0) fun v0 => DM v0 fun x2 =>
   CallsH Tryz.prog 56 [.map x2] h_1 fun r2 h_2 =>
   DM r2 fun x3 =>
   NN' x0 fun a1 =>
   StC h_2 ((a1.add 1).add 0) (.map x3) fun h_4 =>
   NN' x0 fun a2 =>
   StC h_4 ((a2.add 2).add 0) (.slice none 0 0) fun h_6 =>
   Q (.int .i64 e0) h_6
  else
   Q (.int .i64 e0) h_1)
 else
  (bif (x1 : Int) == 0 then
   NN' x0 fun a3 =>
   Ld h_0 (a3.add 0) fun v1 => DM v1 fun x4 =>
   CallsH Tryz.prog 56 [.map x4] h_0 fun r5 h_7 =>
   DM r5 fun x5 =>
   NN' x0 fun a4 =>
   StC h_7 ((a4.add 1).add 0) (.map x5) fun h_9 =>
   NN' x0 fun a5 =>
   StC h_9 ((a5.add 2).add 0) (.slice none 0 0) fun h_11 =>
   Q (.int .i64 x1) h_11
  else
   Q (.int .i64 x1) h_0))
theorem F82_eq : (fun (f0 : Option Addr) (dir0 : ByteArray) (h : Heap) (Q : Value → Heap → Prop) => fnPT Tryz.prog Tryz.f82 (fun _ => annNil) (fun _ => []) (fun _ => none) [.pointer f0, .string dir0] h Q) = F82 := by kernel_rfl
theorem F82_ok {f0 : Option Addr} {dir0 : ByteArray} {h : Heap} {Q : Value → Heap → Prop} (H : F82 f0 dir0 h Q) : CallsH Tryz.prog 82 [.pointer f0, .string dir0] h Q :=
 callsH_of (ann := fun _ => annNil) (tys := fun _ => []) (pl := fun _ => none) Tryz.func82 (by kernel_rfl) (by have e := F82_eq; exact (congrFun (congrFun (congrFun (congrFun (e) f0) dir0) h) Q).symm ▸ H)

/-- (*headgate/simfs.FS).Fuse -/
def F18 (f0 : Option Addr) (n0 : Int) (h : Heap) (Q : Value → Heap → Prop) : Prop :=
 (bif (f0).isNone then
  Q (.int .i64 1) h
 else
  (bif decide ((n0 : Int) < 0) then
   Q (.int .i64 2) h
  else
   NN' f0 fun a0 =>
   StC h ((a0.add 3).add 0) (.int .i64 n0) fun h_1 =>
   Q (.int .i64 0) h_1))
theorem F18_eq : (fun (f0 : Option Addr) (n0 : Int) (h : Heap) (Q : Value → Heap → Prop) => fnPT Tryz.prog Tryz.f18 (fun _ => annNil) (fun _ => []) (fun _ => none) [.pointer f0, .int .i64 n0] h Q) = F18 := by kernel_rfl
theorem F18_ok {f0 : Option Addr} {n0 : Int} {h : Heap} {Q : Value → Heap → Prop} (H : F18 f0 n0 h Q) : CallsH Tryz.prog 18 [.pointer f0, .int .i64 n0] h Q :=
 callsH_of (ann := fun _ => annNil) (tys := fun _ => []) (pl := fun _ => none) Tryz.func18 (by kernel_rfl) (by have e := F18_eq; exact (congrFun (congrFun (congrFun (congrFun (e) f0) n0) h) Q).symm ▸ H)

/-- (*headgate/simfs.FS).Rename -/
def F83 (f0 : Option Addr) (dir0 : ByteArray) (from_0 : ByteArray) (to0 : ByteArray) (h : Heap) (Q : Value → Heap → Prop) : Prop :=
 Al h (.cells #[.string from_0] 9) fun b0 h_0 =>
 Al h_0 (.cells #[.string to0] 9) fun b1 h_1 =>
 Ld h_1 (Addr.mk b0 0 none) fun v0 => DS v0 fun x0 =>
 Ld h_1 (Addr.mk b1 0 none) fun v1 => DS v1 fun x1 =>
 Al h_1 (.cells #[.string x0, .string x1] 9) fun b2 h_2 =>
 CallsH Tryz.prog 50 [.pointer f0, .string dir0, .slice (some (Addr.mk b2 0 none)) 2 2] h_2 fun r3 h_3 =>
 ∃ (x2 : Option Addr), ∃ (x3 : Int), r3 = .tuple #[.pointer x2, .int .i64 x3] ∧
 (bif (x3 : Int) != 0 then
  Q (.int .i64 x3) h_3
 else
  NN' x2 fun a0 =>
  Ld h_3 (a0.add 0) fun v2 => DM v2 fun x4 =>
  Ld h_3 (Addr.mk b0 0 none) fun v3 => DS v3 fun x5 =>
  ∃ es0, mapEs h_3 x4 es0 ∧ ∃ f1, Instr.findNow .string (.string x5) (es0 : Array MapEntry).toList 0 = some f1 ∧
  DP ((Option.map (fun x => x.2) f1).getD (.pointer none)) fun x6 =>
  (bif (x6).isNone then
   Q (.int .i64 62) h_3
  else
   CallsH Tryz.prog 171 [.pointer f0, .pointer x2, .func (.func 174) #[] #[.pointer (some (Addr.mk b0 0 none)), .pointer (some (Addr.mk b1 0 none))]] h_3 fun r4 h_4 =>
   DI .i64 r4 fun x7 =>
   Q (.int .i64 x7) h_4))
theorem F83_eq : (fun (f0 : Option Addr) (dir0 : ByteArray) (from_0 : ByteArray) (to0 : ByteArray) (h : Heap) (Q : Value → Heap → Prop) => fnPT Tryz.prog Tryz.f83 (fun _ => annNil) (fun _ => []) (fun _ => none) [.pointer f0, .string dir0, .string from_0, .string to0] h Q) = F83 := by kernel_rfl
theorem F83_ok {f0 : Option Addr} {dir0 : ByteArray} {from_0 : ByteArray} {to0 : ByteArray} {h : Heap} {Q : Value → Heap → Prop} (H : F83 f0 dir0 from_0 to0 h Q) : CallsH Tryz.prog 83 [.pointer f0, .string dir0, .string from_0, .string to0] h Q :=
 callsH_of (ann := fun _ => annNil) (tys := fun _ => []) (pl := fun _ => none) Tryz.func83 (by kernel_rfl) (by have e := F83_eq; exact (congrFun (congrFun (congrFun (congrFun (congrFun (congrFun (e) f0) dir0) from_0) to0) h) Q).symm ▸ H)

/-- (*headgate/simfs.FS).Read -/
def F103 (f0 : Option Addr) (dir0 : ByteArray) (name0 : ByteArray) (h : Heap) (Q : Value → Heap → Prop) : Prop :=
 CallsH Tryz.prog 173 [.pointer f0, .string dir0, .string name0] h fun r0 h_0 =>
 ∃ (x0 : Option Addr), ∃ (x1 : Option Addr), ∃ (x2 : Int), r0 = .tuple #[.pointer x0, .pointer x1, .int .i64 x2] ∧
 (bif (x2 : Int) != 0 then
  Q (.tuple #[.slice none 0 0, .int .i64 x2]) h_0
 else
  NN' x1 fun a0 =>
  Ld h_0 (a0.add 0) fun v0 => DSl v0 fun x3a x3l x3c =>
  CallsH Tryz.prog 176 [.slice x3a x3l x3c] h_0 fun r1 h_1 =>
  DSl r1 fun x4a x4l x4c =>
  Q (.tuple #[.slice x4a x4l x4c, .int .i64 0]) h_1)
theorem F103_eq : (fun (f0 : Option Addr) (dir0 : ByteArray) (name0 : ByteArray) (h : Heap) (Q : Value → Heap → Prop) => fnPT Tryz.prog Tryz.f103 (fun _ => annNil) (fun _ => []) (fun _ => none) [.pointer f0, .string dir0, .string name0] h Q) = F103 := by kernel_rfl
theorem F103_ok {f0 : Option Addr} {dir0 : ByteArray} {name0 : ByteArray} {h : Heap} {Q : Value → Heap → Prop} (H : F103 f0 dir0 name0 h Q) : CallsH Tryz.prog 103 [.pointer f0, .string dir0, .string name0] h Q :=
 callsH_of (ann := fun _ => annNil) (tys := fun _ => []) (pl := fun _ => none) Tryz.func103 (by kernel_rfl) (by have e := F103_eq; exact (congrFun (congrFun (congrFun (congrFun (congrFun (e) f0) dir0) name0) h) Q).symm ▸ H)

/-- (*headgate/simfs.FS).Remove -/
def F84 (f0 : Option Addr) (dir0 : ByteArray) (name0 : ByteArray) (h : Heap) (Q : Value → Heap → Prop) : Prop :=
 Al h (.cells #[.string name0] 9) fun b0 h_0 =>
 Ld h_0 (Addr.mk b0 0 none) fun v0 => DS v0 fun x0 =>
 CallsH Tryz.prog 173 [.pointer f0, .string dir0, .string x0] h_0 fun r1 h_1 =>
 ∃ (x1 : Option Addr), ∃ (x2 : Option Addr), ∃ (x3 : Int), r1 = .tuple #[.pointer x1, .pointer x2, .int .i64 x3] ∧
 (bif (x3 : Int) != 0 then
  Q (.int .i64 x3) h_1
 else
  CallsH Tryz.prog 171 [.pointer f0, .pointer x1, .func (.func 175) #[] #[.pointer (some (Addr.mk b0 0 none))]] h_1 fun r2 h_2 =>
  DI .i64 r2 fun x4 =>
  Q (.int .i64 x4) h_2)
theorem F84_eq : (fun (f0 : Option Addr) (dir0 : ByteArray) (name0 : ByteArray) (h : Heap) (Q : Value → Heap → Prop) => fnPT Tryz.prog Tryz.f84 (fun _ => annNil) (fun _ => []) (fun _ => none) [.pointer f0, .string dir0, .string name0] h Q) = F84 := by kernel_rfl
theorem F84_ok {f0 : Option Addr} {dir0 : ByteArray} {name0 : ByteArray} {h : Heap} {Q : Value → Heap → Prop} (H : F84 f0 dir0 name0 h Q) : CallsH Tryz.prog 84 [.pointer f0, .string dir0, .string name0] h Q :=
 callsH_of (ann := fun _ => annNil) (tys := fun _ => []) (pl := fun _ => none) Tryz.func84 (by kernel_rfl) (by have e := F84_eq; exact (congrFun (congrFun (congrFun (congrFun (congrFun (e) f0) dir0) name0) h) Q).symm ▸ H)

/-- (*headgate/simfs.FS).List -/
def F16 (f0 : Option Addr) (dir0 : ByteArray) (h : Heap) (Q : Value → Heap → Prop) : Prop :=
 CallsH Tryz.prog 50 [.pointer f0, .string dir0, .slice none 0 0] h fun r0 h_0 =>
 ∃ (x0 : Option Addr), ∃ (x1 : Int), r0 = .tuple #[.pointer x0, .int .i64 x1] ∧
 (bif (x1 : Int) != 0 then
  Q (.tuple #[.slice none 0 0, .int .i64 x1]) h_0
 else
  NN' x0 fun a0 =>
  Ld h_0 (a0.add 0) fun v0 => DM v0 fun x2 =>
  CallsH Tryz.prog 52 [.map x2] h_0 fun r1 h_1 =>
  ∃ (x3 : Value), r1 = x3 ∧
  CallsH Tryz.prog 51 [x3] h_1 fun r2 h_2 =>
  DSl r2 fun x4a x4l x4c =>
  Q (.tuple #[.slice x4a x4l x4c, .int .i64 0]) h_2)
theorem F16_eq : (fun (f0 : Option Addr) (dir0 : ByteArray) (h : Heap) (Q : Value → Heap → Prop) => fnPT Tryz.prog Tryz.f16 (fun _ => annNil) (fun _ => []) (fun _ => none) [.pointer f0, .string dir0] h Q) = F16 := by kernel_rfl
theorem F16_ok {f0 : Option Addr} {dir0 : ByteArray} {h : Heap} {Q : Value → Heap → Prop} (H : F16 f0 dir0 h Q) : CallsH Tryz.prog 16 [.pointer f0, .string dir0] h Q :=
 callsH_of (ann := fun _ => annNil) (tys := fun _ => []) (pl := fun _ => none) Tryz.func16 (by kernel_rfl) (by have e := F16_eq; exact (congrFun (congrFun (congrFun (congrFun (e) f0) dir0) h) Q).symm ▸ H)

end Go.Proofs.YtibdiikcigokjaaGreatDoor
