/- The texts over heaps of functions of the program: written by a program of this claim's writer (decomp.py); Lean checks each against the code. -/
import Derived.Test.YtibdiikcigokjaaGreatSkFwA
import Derived.Test.YtibdiikcigokjaaGreatProg
namespace Go.Proofs.YtibdiikcigokjaaGreat
open Go Go.RowKit
set_option linter.unusedVariables false
set_option maxRecDepth 100000

/-- headgate/simfs.New -/
def F14 (room0 : Int) (h : Heap) (Q : Value → Heap → Prop) : Prop :=
  (bif decide ((room0 : Int) < 0) then
    Q (.tuple #[.pointer none, .int .i64 2]) h
  else
    (bif decide ((room0 : Int) > 1073741824) then
      Q (.tuple #[.pointer none, .int .i64 2]) h
    else
      Al h (.map #[] 0) fun b0 h_0 =>
      Al h_0 (.cells #[.int .i64 room0, .int .i64 0, .int .i64 0, .int .i64 (-1), .bool false, .map (some b0)] 117) fun b1 h_1 =>
      Q (.tuple #[.pointer (some (Addr.mk b1 0 none)), .int .i64 0]) h_1))
theorem F14_eq : (fun (room0 : Int) (h : Heap) (Q : Value → Heap → Prop) => fnPT Tryz.prog Tryz.f14 (fun _ => annNil) (fun _ => []) (fun _ => none) [.int .i64 room0] h Q) = F14 := by kernel_rfl
theorem F14_ok {room0 : Int} {h : Heap} {Q : Value → Heap → Prop} (H : F14 room0 h Q) : CallsH Tryz.prog 14 [.int .i64 room0] h Q :=
  callsH_of (ann := fun _ => annNil) (tys := fun _ => []) (pl := fun _ => none) Tryz.func14 (by kernel_rfl) (by have e := F14_eq; exact (congrFun (congrFun (congrFun (e) room0) h) Q).symm ▸ H)

/-- (*headgate/simfs.FS).Mkdir -/
def F78 (f0 : Option Addr) (dir0 : ByteArray) (h : Heap) (Q : Value → Heap → Prop) : Prop :=
  CallsH Tryz.prog 122 [.pointer f0, .string dir0, .slice none 0 0] h fun r0 h_0 =>
  ∃ (x0 : Option Addr), ∃ (x1 : Int), r0 = .tuple #[.pointer x0, .int .i64 x1] ∧
  (bif (x1 : Int) == 0 then
    Q (.int .i64 63) h_0
  else
    (bif (x1 : Int) != 61 then
      Q (.int .i64 x1) h_0
    else
      NN' f0 fun a0 =>
      Ld h_0 (a0.add 5) fun v0 => DM v0 fun x2 =>
      ∃ es0, mapEs h_0 x2 es0 ∧
      (bif decide ((((es0 : Array MapEntry).size : Int) : Int) ≥ 64) then
        Q (.int .i64 66) h_0
      else
        CallsH Tryz.prog 123 [.pointer f0] h_0 fun r1 h_1 =>
        DI .i64 r1 fun e0 =>
        (bif (e0 : Int) != 0 then
          Q (.int .i64 e0) h_1
        else
          NN' f0 fun a1 =>
          Ld h_1 (a1.add 5) fun v1 => DM v1 fun x3 =>
          Al h_1 (.map #[] 0) fun b0 h_2 =>
          Al h_2 (.map #[] 0) fun b1 h_3 =>
          Al h_3 (.cells #[.map (some b0), .map (some b1), .slice none 0 0] 131) fun b2 h_4 =>
          RunU Tryz.prog (Instr.mapUpdate 115 (.map x3) (.string dir0) (.pointer (some (Addr.mk b2 0 none)))) h_4 fun h_5 =>
          Q (.int .i64 0) h_5))))
theorem F78_eq : (fun (f0 : Option Addr) (dir0 : ByteArray) (h : Heap) (Q : Value → Heap → Prop) => fnPT Tryz.prog Tryz.f78 (fun _ => annNil) (fun _ => []) (fun _ => none) [.pointer f0, .string dir0] h Q) = F78 := by kernel_rfl
theorem F78_ok {f0 : Option Addr} {dir0 : ByteArray} {h : Heap} {Q : Value → Heap → Prop} (H : F78 f0 dir0 h Q) : CallsH Tryz.prog 78 [.pointer f0, .string dir0] h Q :=
  callsH_of (ann := fun _ => annNil) (tys := fun _ => []) (pl := fun _ => none) Tryz.func78 (by kernel_rfl) (by have e := F78_eq; exact (congrFun (congrFun (congrFun (congrFun (e) f0) dir0) h) Q).symm ▸ H)

/-- (*headgate/simfs.FS).Create -/
def F79 (f0 : Option Addr) (dir0 : ByteArray) (name0 : ByteArray) (h : Heap) (Q : Value → Heap → Prop) : Prop :=
  Al h (.cells #[.string name0] 9) fun b0 h_0 =>
  Ld h_0 (Addr.mk b0 0 none) fun v0 => DS v0 fun x0 =>
  Al h_0 (.cells #[.string x0] 9) fun b1 h_1 =>
  CallsH Tryz.prog 122 [.pointer f0, .string dir0, .slice (some (Addr.mk b1 0 none)) 1 1] h_1 fun r2 h_2 =>
  ∃ (x1 : Option Addr), ∃ (x2 : Int), r2 = .tuple #[.pointer x1, .int .i64 x2] ∧
  (bif (x2 : Int) != 0 then
    Q (.int .i64 x2) h_2
  else
    NN' x1 fun a0 =>
    Ld h_2 (a0.add 0) fun v1 => DM v1 fun x3 =>
    Ld h_2 (Addr.mk b0 0 none) fun v2 => DS v2 fun x4 =>
    ∃ es0, mapEs h_2 x3 es0 ∧ ∃ f1, Instr.findNow .string (.string x4) (es0 : Array MapEntry).toList 0 = some f1 ∧
    DP ((Option.map (fun x => x.2) f1).getD (.pointer none)) fun x5 =>
    (bif !((x5).isNone) then
      Q (.int .i64 63) h_2
    else
      NN' x1 fun a1 =>
      Ld h_2 (a1.add 0) fun v3 => DM v3 fun x6 =>
      ∃ es1, mapEs h_2 x6 es1 ∧
      (bif decide ((((es1 : Array MapEntry).size : Int) : Int) ≥ 4096) then
        Q (.int .i64 66) h_2
      else
        Al h_2 (.cells #[.slice none 0 0, .int .i64 0] 140) fun b2 h_3 =>
        Al h_3 (.cells #[.pointer none] 134) fun b3 h_4 =>
        StC h_4 ((Addr.mk b3 0 none).add 0) (.pointer (some (Addr.mk b2 0 none))) fun h_6 =>
        CallsH Tryz.prog 120 [.pointer f0, .pointer x1, .func (.func 143) #[] #[.pointer (some (Addr.mk b3 0 none)), .pointer (some (Addr.mk b0 0 none))]] h_6 fun r6 h_7 =>
        DI .i64 r6 fun x7 =>
        Q (.int .i64 x7) h_7)))
theorem F79_eq : (fun (f0 : Option Addr) (dir0 : ByteArray) (name0 : ByteArray) (h : Heap) (Q : Value → Heap → Prop) => fnPT Tryz.prog Tryz.f79 (fun _ => annNil) (fun _ => []) (fun _ => none) [.pointer f0, .string dir0, .string name0] h Q) = F79 := by kernel_rfl
theorem F79_ok {f0 : Option Addr} {dir0 : ByteArray} {name0 : ByteArray} {h : Heap} {Q : Value → Heap → Prop} (H : F79 f0 dir0 name0 h Q) : CallsH Tryz.prog 79 [.pointer f0, .string dir0, .string name0] h Q :=
  callsH_of (ann := fun _ => annNil) (tys := fun _ => []) (pl := fun _ => none) Tryz.func79 (by kernel_rfl) (by have e := F79_eq; exact (congrFun (congrFun (congrFun (congrFun (congrFun (e) f0) dir0) name0) h) Q).symm ▸ H)

/-- (*headgate/simfs.FS).Append -/
def F80 (f0 : Option Addr) (dir0 : ByteArray) (name0 : ByteArray) (b0a : Option Addr) (b0l : Nat) (b0c : Nat) (h : Heap) (Q : Value → Heap → Prop) : Prop :=
  CallsH Tryz.prog 119 [.pointer f0, .string dir0, .string name0] h fun r0 h_0 =>
  ∃ (x0 : Option Addr), ∃ (x1 : Option Addr), ∃ (x2 : Int), r0 = .tuple #[.pointer x0, .pointer x1, .int .i64 x2] ∧
  (bif (x2 : Int) != 0 then
    Q (.int .i64 x2) h_0
  else
    NN' x1 fun a0 =>
    Ld h_0 (a0.add 0) fun v0 => DSl v0 fun x3a x3l x3c =>
    (bif decide (((IntKind.wrap .i64 ((x3l : Int) + (b0l : Int))) : Int) > 16777216) then
      Q (.int .i64 67) h_0
    else
      NN' f0 fun a1 =>
      Ld h_0 (a1.add 1) fun v1 => DI .i64 v1 fun x4 =>
      NN' f0 fun a2 =>
      Ld h_0 (a2.add 0) fun v2 => DI .i64 v2 fun x5 =>
      (bif decide (((IntKind.wrap .i64 (x4 + (b0l : Int))) : Int) > x5) then
        Q (.int .i64 64) h_0
      else
        CallsH Tryz.prog 123 [.pointer f0] h_0 fun r1 h_1 =>
        DI .i64 r1 fun e0 =>
        (bif (e0 : Int) != 0 then
          Q (.int .i64 e0) h_1
        else
          NN' x1 fun a3 =>
          Ld h_1 (a3.add 0) fun v3 => DSl v3 fun x6a x6l x6c =>
          RunH Tryz.prog (Builtin.append_ #[35, 35] 35 #[.slice x6a x6l x6c, .slice b0a b0l b0c]) h_1 fun r2 h_2 =>
          DSl r2 fun x7a x7l x7c =>
          NN' x1 fun a4 =>
          StC h_2 ((a4.add 0).add 0) (.slice x7a x7l x7c) fun h_4 =>
          NN' f0 fun a5 =>
          Ld h_4 (a5.add 1) fun v4 => DI .i64 v4 fun x8 =>
          NN' f0 fun a6 =>
          StC h_4 ((a6.add 1).add 0) (.int .i64 (IntKind.wrap .i64 (x8 + (b0l : Int)))) fun h_6 =>
          Q (.int .i64 0) h_6))))
theorem F80_eq : (fun (f0 : Option Addr) (dir0 : ByteArray) (name0 : ByteArray) (b0a : Option Addr) (b0l : Nat) (b0c : Nat) (h : Heap) (Q : Value → Heap → Prop) => fnPT Tryz.prog Tryz.f80 (fun _ => annNil) (fun _ => []) (fun _ => none) [.pointer f0, .string dir0, .string name0, .slice b0a b0l b0c] h Q) = F80 := by kernel_rfl
theorem F80_ok {f0 : Option Addr} {dir0 : ByteArray} {name0 : ByteArray} {b0a : Option Addr} {b0l : Nat} {b0c : Nat} {h : Heap} {Q : Value → Heap → Prop} (H : F80 f0 dir0 name0 b0a b0l b0c h Q) : CallsH Tryz.prog 80 [.pointer f0, .string dir0, .string name0, .slice b0a b0l b0c] h Q :=
  callsH_of (ann := fun _ => annNil) (tys := fun _ => []) (pl := fun _ => none) Tryz.func80 (by kernel_rfl) (by have e := F80_eq; exact (congrFun (congrFun (congrFun (congrFun (congrFun (congrFun (congrFun (congrFun (e) f0) dir0) name0) b0a) b0l) b0c) h) Q).symm ▸ H)

/-- (*headgate/simfs.FS).Sync -/
def F81 (f0 : Option Addr) (dir0 : ByteArray) (name0 : ByteArray) (h : Heap) (Q : Value → Heap → Prop) : Prop :=
  CallsH Tryz.prog 119 [.pointer f0, .string dir0, .string name0] h fun r0 h_0 =>
  ∃ (x0 : Option Addr), ∃ (x1 : Option Addr), ∃ (x2 : Int), r0 = .tuple #[.pointer x0, .pointer x1, .int .i64 x2] ∧
  (bif (x2 : Int) == 0 then
    CallsH Tryz.prog 123 [.pointer f0] h_0 fun r1 h_1 =>
    DI .i64 r1 fun e0 =>
    (bif (e0 : Int) == 0 then
      NN' x1 fun a0 =>
      Ld h_1 (a0.add 0) fun v0 => DSl v0 fun x3a x3l x3c =>
      NN' x1 fun a1 =>
      StC h_1 ((a1.add 1).add 0) (.int .i64 (x3l : Int)) fun h_3 =>
      Q (.int .i64 e0) h_3
    else
      Q (.int .i64 e0) h_1)
  else
    (bif (x2 : Int) == 0 then
      NN' x1 fun a2 =>
      Ld h_0 (a2.add 0) fun v1 => DSl v1 fun x4a x4l x4c =>
      NN' x1 fun a3 =>
      StC h_0 ((a3.add 1).add 0) (.int .i64 (x4l : Int)) fun h_5 =>
      Q (.int .i64 x2) h_5
    else
      Q (.int .i64 x2) h_0))
theorem F81_eq : (fun (f0 : Option Addr) (dir0 : ByteArray) (name0 : ByteArray) (h : Heap) (Q : Value → Heap → Prop) => fnPT Tryz.prog Tryz.f81 (fun _ => annNil) (fun _ => []) (fun _ => none) [.pointer f0, .string dir0, .string name0] h Q) = F81 := by kernel_rfl
theorem F81_ok {f0 : Option Addr} {dir0 : ByteArray} {name0 : ByteArray} {h : Heap} {Q : Value → Heap → Prop} (H : F81 f0 dir0 name0 h Q) : CallsH Tryz.prog 81 [.pointer f0, .string dir0, .string name0] h Q :=
  callsH_of (ann := fun _ => annNil) (tys := fun _ => []) (pl := fun _ => none) Tryz.func81 (by kernel_rfl) (by have e := F81_eq; exact (congrFun (congrFun (congrFun (congrFun (congrFun (e) f0) dir0) name0) h) Q).symm ▸ H)

/-- (*headgate/simfs.FS).SyncDir -/
def F53 (f0 : Option Addr) (dir0 : ByteArray) (h : Heap) (Q : Value → Heap → Prop) : Prop :=
  CallsH Tryz.prog 122 [.pointer f0, .string dir0, .slice none 0 0] h fun r0 h_0 =>
  ∃ (x0 : Option Addr), ∃ (x1 : Int), r0 = .tuple #[.pointer x0, .int .i64 x1] ∧
  (bif (x1 : Int) == 0 then
    CallsH Tryz.prog 123 [.pointer f0] h_0 fun r1 h_1 =>
    DI .i64 r1 fun e0 =>
    (bif (e0 : Int) == 0 then
      NN' x0 fun a0 =>
      Ld h_1 (a0.add 0) fun v0 => DM v0 fun x2 =>
      CallsH Tryz.prog 61 [.map x2] h_1 fun r2 h_2 =>
      DM r2 fun x3 =>
      NN' x0 fun a1 =>
      StC h_2 ((a1.add 1).add 0) (.map x3) fun h_4 =>
      NN' x0 fun a2 =>
      StC h_4 ((a2.add 2).add 0) (.slice none 0 0) fun h_6 =>
      Q (.int .i64 e0) h_6
    else
      Q (.int .i64 e0) h_1)
  else
    (bif (x1 : Int) == 0 then
      NN' x0 fun a3 =>
      Ld h_0 (a3.add 0) fun v1 => DM v1 fun x4 =>
      CallsH Tryz.prog 61 [.map x4] h_0 fun r5 h_7 =>
      DM r5 fun x5 =>
      NN' x0 fun a4 =>
      StC h_7 ((a4.add 1).add 0) (.map x5) fun h_9 =>
      NN' x0 fun a5 =>
      StC h_9 ((a5.add 2).add 0) (.slice none 0 0) fun h_11 =>
      Q (.int .i64 x1) h_11
    else
      Q (.int .i64 x1) h_0))
theorem F53_eq : (fun (f0 : Option Addr) (dir0 : ByteArray) (h : Heap) (Q : Value → Heap → Prop) => fnPT Tryz.prog Tryz.f53 (fun _ => annNil) (fun _ => []) (fun _ => none) [.pointer f0, .string dir0] h Q) = F53 := by kernel_rfl
theorem F53_ok {f0 : Option Addr} {dir0 : ByteArray} {h : Heap} {Q : Value → Heap → Prop} (H : F53 f0 dir0 h Q) : CallsH Tryz.prog 53 [.pointer f0, .string dir0] h Q :=
  callsH_of (ann := fun _ => annNil) (tys := fun _ => []) (pl := fun _ => none) Tryz.func53 (by kernel_rfl) (by have e := F53_eq; exact (congrFun (congrFun (congrFun (congrFun (e) f0) dir0) h) Q).symm ▸ H)

/-- (*headgate/simfs.FS).Fuse -/
def F19 (f0 : Option Addr) (n0 : Int) (h : Heap) (Q : Value → Heap → Prop) : Prop :=
  (bif (f0).isNone then
    Q (.int .i64 1) h
  else
    (bif decide ((n0 : Int) < 0) then
      Q (.int .i64 2) h
    else
      NN' f0 fun a0 =>
      StC h ((a0.add 3).add 0) (.int .i64 n0) fun h_1 =>
      Q (.int .i64 0) h_1))
theorem F19_eq : (fun (f0 : Option Addr) (n0 : Int) (h : Heap) (Q : Value → Heap → Prop) => fnPT Tryz.prog Tryz.f19 (fun _ => annNil) (fun _ => []) (fun _ => none) [.pointer f0, .int .i64 n0] h Q) = F19 := by kernel_rfl
theorem F19_ok {f0 : Option Addr} {n0 : Int} {h : Heap} {Q : Value → Heap → Prop} (H : F19 f0 n0 h Q) : CallsH Tryz.prog 19 [.pointer f0, .int .i64 n0] h Q :=
  callsH_of (ann := fun _ => annNil) (tys := fun _ => []) (pl := fun _ => none) Tryz.func19 (by kernel_rfl) (by have e := F19_eq; exact (congrFun (congrFun (congrFun (congrFun (e) f0) n0) h) Q).symm ▸ H)

/-- (*headgate/simfs.FS).Rename -/
def F82 (f0 : Option Addr) (dir0 : ByteArray) (from_0 : ByteArray) (to0 : ByteArray) (h : Heap) (Q : Value → Heap → Prop) : Prop :=
  Al h (.cells #[.string from_0] 9) fun b0 h_0 =>
  Al h_0 (.cells #[.string to0] 9) fun b1 h_1 =>
  Ld h_1 (Addr.mk b0 0 none) fun v0 => DS v0 fun x0 =>
  Ld h_1 (Addr.mk b1 0 none) fun v1 => DS v1 fun x1 =>
  Al h_1 (.cells #[.string x0, .string x1] 9) fun b2 h_2 =>
  CallsH Tryz.prog 122 [.pointer f0, .string dir0, .slice (some (Addr.mk b2 0 none)) 2 2] h_2 fun r3 h_3 =>
  ∃ (x2 : Option Addr), ∃ (x3 : Int), r3 = .tuple #[.pointer x2, .int .i64 x3] ∧
  (bif (x3 : Int) != 0 then
    Q (.int .i64 x3) h_3
  else
    NN' x2 fun a0 =>
    Ld h_3 (a0.add 0) fun v2 => DM v2 fun x4 =>
    Ld h_3 (Addr.mk b0 0 none) fun v3 => DS v3 fun x5 =>
    ∃ es0, mapEs h_3 x4 es0 ∧ ∃ f1, Instr.findNow .string (.string x5) (es0 : Array MapEntry).toList 0 = some f1 ∧
    DP ((Option.map (fun x => x.2) f1).getD (.pointer none)) fun x6 =>
    (bif (x6).isNone then
      Q (.int .i64 62) h_3
    else
      CallsH Tryz.prog 120 [.pointer f0, .pointer x2, .func (.func 144) #[] #[.pointer (some (Addr.mk b0 0 none)), .pointer (some (Addr.mk b1 0 none))]] h_3 fun r4 h_4 =>
      DI .i64 r4 fun x7 =>
      Q (.int .i64 x7) h_4))
theorem F82_eq : (fun (f0 : Option Addr) (dir0 : ByteArray) (from_0 : ByteArray) (to0 : ByteArray) (h : Heap) (Q : Value → Heap → Prop) => fnPT Tryz.prog Tryz.f82 (fun _ => annNil) (fun _ => []) (fun _ => none) [.pointer f0, .string dir0, .string from_0, .string to0] h Q) = F82 := by kernel_rfl
theorem F82_ok {f0 : Option Addr} {dir0 : ByteArray} {from_0 : ByteArray} {to0 : ByteArray} {h : Heap} {Q : Value → Heap → Prop} (H : F82 f0 dir0 from_0 to0 h Q) : CallsH Tryz.prog 82 [.pointer f0, .string dir0, .string from_0, .string to0] h Q :=
  callsH_of (ann := fun _ => annNil) (tys := fun _ => []) (pl := fun _ => none) Tryz.func82 (by kernel_rfl) (by have e := F82_eq; exact (congrFun (congrFun (congrFun (congrFun (congrFun (congrFun (e) f0) dir0) from_0) to0) h) Q).symm ▸ H)

/-- (*headgate/simfs.FS).Crash -/
def F20 (f0 : Option Addr) (picks0a : Option Addr) (picks0l : Nat) (picks0c : Nat) (h : Heap) (Q : Value → Heap → Prop) : Prop :=
  Al h (.cells #[.slice picks0a picks0l picks0c] 47) fun b0 h_0 =>
  (bif (f0).isNone then
    Q (.int .i64 1) h_0
  else
    CallsH Tryz.prog 60 [.pointer f0] h_0 fun r1 h_1 =>
    DSl r1 fun x0a x0l x0c =>
    LoopH (fun again0 (s0 : Int) h_2 =>
      (bif decide ((s0 : Int) < (x0l : Int)) then
        IdxA x0a x0l s0 1 fun a0 =>
        Ld h_2 a0 fun v0 => DS v0 fun s1 =>
        NN' f0 fun a1 =>
        Ld h_2 (a1.add 5) fun v1 => DM v1 fun x1 =>
        ∃ es0, mapEs h_2 x1 es0 ∧ ∃ f1, Instr.findNow .string (.string s1) (es0 : Array MapEntry).toList 0 = some f1 ∧
        DP ((Option.map (fun x => x.2) f1).getD (.pointer none)) fun d0 =>
        NN' d0 fun a2 =>
        Ld h_2 (a2.add 2) fun v2 => DSl v2 fun x2a x2l x2c =>
        NN' d0 fun a3 =>
        Ld h_2 (a3.add 2) fun v3 => DSl v3 fun x3a x3l x3c =>
        CallsH Tryz.prog 59 [.int .i64 (x3l : Int), .pointer (some (Addr.mk b0 0 none))] h_2 fun r2 h_3 =>
        DI .i64 r2 fun x4 =>
        (SameV (some (.pointer d0)) (.pointer d0)) ∧
        (NN' d0 fun a4 =>
        SameV (some (.pointer (some a2))) (.pointer (some a4))) ∧
        (SameV (some (.pointer (some (a2.add 2)))) (.pointer (some (a2.add 2)))) ∧
        (Ld h_3 (a2.add 2) fun v4 => DSl v4 fun x5a x5l x5c =>
        SameV (some (.slice x2a x2l x2c)) (.slice x5a x5l x5c)) ∧
        (SameV (some (.int .i64 0)) (.int .i64 0)) ∧
        SlV x2a x2c 1 0 x4 (x2c : Int) fun s2a s2l s2c =>
        LoopH (fun again1 (s3 : Int) h_4 =>
          (bif decide ((s3 : Int) < (s2l : Int)) then
            IdxA s2a s2l s3 1 fun a5 =>
            Ld h_4 a5 fun v5 => ∃ (do_0 : Value), v5 = do_0 ∧
            NN' d0 fun a6 =>
            Ld h_4 (a6.add 1) fun v6 => DM v6 fun x6 =>
            CallV Tryz.prog do_0 [.map x6] h_4 fun r3 h_5 =>
            r3 = .tuple #[] ∧
            again1 (IntKind.wrap .i64 (s3 + 1)) h_5
          else
            NN' d0 fun a7 =>
            Ld h_4 (a7.add 1) fun v7 => DM v7 fun x7 =>
            CallsH Tryz.prog 61 [.map x7] h_4 fun r4 h_6 =>
            DM r4 fun x8 =>
            NN' d0 fun a8 =>
            StC h_6 ((a8.add 0).add 0) (.map x8) fun h_8 =>
            NN' d0 fun a9 =>
            StC h_8 ((a9.add 2).add 0) (.slice none 0 0) fun h_10 =>
            again0 (IntKind.wrap .i64 (s0 + 1)) h_10)) 0 h_3
      else
        CallsH Tryz.prog 60 [.pointer f0] h_2 fun r7 h_11 =>
        DSl r7 fun x9a x9l x9c =>
        LoopH (fun again2 (s4 : Int) h_12 =>
          (bif decide ((s4 : Int) < (x9l : Int)) then
            IdxA x9a x9l s4 1 fun a10 =>
            Ld h_12 a10 fun v8 => DS v8 fun s5 =>
            NN' f0 fun a11 =>
            Ld h_12 (a11.add 5) fun v9 => DM v9 fun x10 =>
            ∃ es1, mapEs h_12 x10 es1 ∧ ∃ f2, Instr.findNow .string (.string s5) (es1 : Array MapEntry).toList 0 = some f2 ∧
            DP ((Option.map (fun x => x.2) f2).getD (.pointer none)) fun d1 =>
            NN' d1 fun a12 =>
            Ld h_12 (a12.add 0) fun v10 => DM v10 fun x11 =>
            CallsH Tryz.prog 63 [.map x11] h_12 fun r8 h_13 =>
            ∃ (x12 : Value), r8 = x12 ∧
            CallsH Tryz.prog 62 [x12] h_13 fun r9 h_14 =>
            DSl r9 fun x13a x13l x13c =>
            LoopH (fun again3 (s6 : Int) h_15 =>
              (bif decide ((s6 : Int) < (x13l : Int)) then
                IdxA x13a x13l s6 1 fun a13 =>
                Ld h_15 a13 fun v11 => DS v11 fun n0 =>
                NN' d1 fun a14 =>
                Ld h_15 (a14.add 0) fun v12 => DM v12 fun x14 =>
                ∃ es2, mapEs h_15 x14 es2 ∧ ∃ f3, Instr.findNow .string (.string n0) (es2 : Array MapEntry).toList 0 = some f3 ∧
                DP ((Option.map (fun x => x.2) f3).getD (.pointer none)) fun x15 =>
                NN' x15 fun a15 =>
                Ld h_15 (a15.add 0) fun v13 => DSl v13 fun x16a x16l x16c =>
                NN' x15 fun a16 =>
                Ld h_15 (a16.add 1) fun v14 => DI .i64 v14 fun x17 =>
                NN' x15 fun a17 =>
                Ld h_15 (a17.add 0) fun v15 => DSl v15 fun x18a x18l x18c =>
                NN' x15 fun a18 =>
                Ld h_15 (a18.add 1) fun v16 => DI .i64 v16 fun x19 =>
                CallsH Tryz.prog 59 [.int .i64 (IntKind.wrap .i64 ((x18l : Int) - x19)), .pointer (some (Addr.mk b0 0 none))] h_15 fun r10 h_16 =>
                DI .i64 r10 fun x20 =>
                (SameV (some (.pointer x15)) (.pointer x15)) ∧
                (SameV (some (.pointer x15)) (.pointer x15)) ∧
                (NN' x15 fun a19 =>
                SameV (some (.pointer (some a15))) (.pointer (some a19))) ∧
                (SameV (some (.pointer (some (a15.add 0)))) (.pointer (some (a15.add 0)))) ∧
                (Ld h_16 (a15.add 0) fun v17 => DSl v17 fun x21a x21l x21c =>
                SameV (some (.slice x16a x16l x16c)) (.slice x21a x21l x21c)) ∧
                (SameV (some (.pointer x15)) (.pointer x15)) ∧
                (NN' x15 fun a20 =>
                SameV (some (.pointer (some a16))) (.pointer (some a20))) ∧
                (SameV (some (.pointer (some (a16.add 1)))) (.pointer (some (a16.add 1)))) ∧
                (Ld h_16 (a16.add 1) fun v18 => DI .i64 v18 fun x22 =>
                SameV (some (.int .i64 x17)) (.int .i64 x22)) ∧
                SlV x16a x16c 1 0 (IntKind.wrap .i64 (x17 + x20)) (x16c : Int) fun s7a s7l s7c =>
                NN' x15 fun a21 =>
                StC h_16 ((a21.add 0).add 0) (.slice s7a s7l s7c) fun h_18 =>
                NN' x15 fun a22 =>
                Ld h_18 (a22.add 0) fun v19 => DSl v19 fun x23a x23l x23c =>
                NN' x15 fun a23 =>
                StC h_18 ((a23.add 1).add 0) (.int .i64 (x23l : Int)) fun h_20 =>
                again3 (IntKind.wrap .i64 (s6 + 1)) h_20
              else
                again2 (IntKind.wrap .i64 (s4 + 1)) h_15)) 0 h_14
          else
            NN' f0 fun a24 =>
            StC h_12 ((a24.add 4).add 0) (.bool false) fun h_22 =>
            NN' f0 fun a25 =>
            StC h_22 ((a25.add 3).add 0) (.int .i64 (-1)) fun h_24 =>
            CallsH Tryz.prog 64 [.pointer f0] h_24 fun r15 h_25 =>
            r15 = .tuple #[] ∧
            Q (.int .i64 0) h_25)) 0 h_11)) 0 h_1)
theorem F20_eq : (fun (f0 : Option Addr) (picks0a : Option Addr) (picks0l : Nat) (picks0c : Nat) (h : Heap) (Q : Value → Heap → Prop) => fnPT Tryz.prog Tryz.f20 (fun i => bif Nat.beq i 0 then annOne 23 (codI .i64) else bif Nat.beq i 2 then annOne 46 (codI .i64) else bif Nat.beq i 4 then annOne 72 (codI .i64) else bif Nat.beq i 6 then annOne 89 (codI .i64) else annNil) (fun _ => []) (fun i => bif Nat.beq i 8 then some ⟨[0, 1, 3, 7, 0, 0, 32, 96, 224, 480, 1008, 2047, 4095, 0], 1024⟩ else bif Nat.beq i 23 then some ⟨[0, 0, 2, 6, 14, 0, 32, 96, 224, 0, 0, 1024, 3072, 7168, 15360, 0, 32768, 98304, 229376, 523264, 1048064, 2097120, 4194302, 8388607, 16777215, 33554431], 34603008⟩ else none) [.pointer f0, .slice picks0a picks0l picks0c] h Q) = F20 := by kernel_rfl
theorem F20_ok {f0 : Option Addr} {picks0a : Option Addr} {picks0l : Nat} {picks0c : Nat} {h : Heap} {Q : Value → Heap → Prop} (H : F20 f0 picks0a picks0l picks0c h Q) : CallsH Tryz.prog 20 [.pointer f0, .slice picks0a picks0l picks0c] h Q :=
  callsH_of (ann := fun i => bif Nat.beq i 0 then annOne 23 (codI .i64) else bif Nat.beq i 2 then annOne 46 (codI .i64) else bif Nat.beq i 4 then annOne 72 (codI .i64) else bif Nat.beq i 6 then annOne 89 (codI .i64) else annNil) (tys := fun _ => []) (pl := fun i => bif Nat.beq i 8 then some ⟨[0, 1, 3, 7, 0, 0, 32, 96, 224, 480, 1008, 2047, 4095, 0], 1024⟩ else bif Nat.beq i 23 then some ⟨[0, 0, 2, 6, 14, 0, 32, 96, 224, 0, 0, 1024, 3072, 7168, 15360, 0, 32768, 98304, 229376, 523264, 1048064, 2097120, 4194302, 8388607, 16777215, 33554431], 34603008⟩ else none) Tryz.func20 (by kernel_rfl) (by have e := F20_eq; exact (congrFun (congrFun (congrFun (congrFun (congrFun (congrFun (e) f0) picks0a) picks0l) picks0c) h) Q).symm ▸ H)

/-- (*headgate/simfs.FS).Read -/
def F102 (f0 : Option Addr) (dir0 : ByteArray) (name0 : ByteArray) (h : Heap) (Q : Value → Heap → Prop) : Prop :=
  CallsH Tryz.prog 119 [.pointer f0, .string dir0, .string name0] h fun r0 h_0 =>
  ∃ (x0 : Option Addr), ∃ (x1 : Option Addr), ∃ (x2 : Int), r0 = .tuple #[.pointer x0, .pointer x1, .int .i64 x2] ∧
  (bif (x2 : Int) != 0 then
    Q (.tuple #[.slice none 0 0, .int .i64 x2]) h_0
  else
    NN' x1 fun a0 =>
    Ld h_0 (a0.add 0) fun v0 => DSl v0 fun x3a x3l x3c =>
    CallsH Tryz.prog 146 [.slice x3a x3l x3c] h_0 fun r1 h_1 =>
    DSl r1 fun x4a x4l x4c =>
    Q (.tuple #[.slice x4a x4l x4c, .int .i64 0]) h_1)
theorem F102_eq : (fun (f0 : Option Addr) (dir0 : ByteArray) (name0 : ByteArray) (h : Heap) (Q : Value → Heap → Prop) => fnPT Tryz.prog Tryz.f102 (fun _ => annNil) (fun _ => []) (fun _ => none) [.pointer f0, .string dir0, .string name0] h Q) = F102 := by kernel_rfl
theorem F102_ok {f0 : Option Addr} {dir0 : ByteArray} {name0 : ByteArray} {h : Heap} {Q : Value → Heap → Prop} (H : F102 f0 dir0 name0 h Q) : CallsH Tryz.prog 102 [.pointer f0, .string dir0, .string name0] h Q :=
  callsH_of (ann := fun _ => annNil) (tys := fun _ => []) (pl := fun _ => none) Tryz.func102 (by kernel_rfl) (by have e := F102_eq; exact (congrFun (congrFun (congrFun (congrFun (congrFun (e) f0) dir0) name0) h) Q).symm ▸ H)

/-- (*headgate/simfs.FS).Remove -/
def F50 (f0 : Option Addr) (dir0 : ByteArray) (name0 : ByteArray) (h : Heap) (Q : Value → Heap → Prop) : Prop :=
  Al h (.cells #[.string name0] 9) fun b0 h_0 =>
  Ld h_0 (Addr.mk b0 0 none) fun v0 => DS v0 fun x0 =>
  CallsH Tryz.prog 119 [.pointer f0, .string dir0, .string x0] h_0 fun r1 h_1 =>
  ∃ (x1 : Option Addr), ∃ (x2 : Option Addr), ∃ (x3 : Int), r1 = .tuple #[.pointer x1, .pointer x2, .int .i64 x3] ∧
  (bif (x3 : Int) != 0 then
    Q (.int .i64 x3) h_1
  else
    CallsH Tryz.prog 120 [.pointer f0, .pointer x1, .func (.func 121) #[] #[.pointer (some (Addr.mk b0 0 none))]] h_1 fun r2 h_2 =>
    DI .i64 r2 fun x4 =>
    Q (.int .i64 x4) h_2)
theorem F50_eq : (fun (f0 : Option Addr) (dir0 : ByteArray) (name0 : ByteArray) (h : Heap) (Q : Value → Heap → Prop) => fnPT Tryz.prog Tryz.f50 (fun _ => annNil) (fun _ => []) (fun _ => none) [.pointer f0, .string dir0, .string name0] h Q) = F50 := by kernel_rfl
theorem F50_ok {f0 : Option Addr} {dir0 : ByteArray} {name0 : ByteArray} {h : Heap} {Q : Value → Heap → Prop} (H : F50 f0 dir0 name0 h Q) : CallsH Tryz.prog 50 [.pointer f0, .string dir0, .string name0] h Q :=
  callsH_of (ann := fun _ => annNil) (tys := fun _ => []) (pl := fun _ => none) Tryz.func50 (by kernel_rfl) (by have e := F50_eq; exact (congrFun (congrFun (congrFun (congrFun (congrFun (e) f0) dir0) name0) h) Q).symm ▸ H)

/-- (*headgate/simfs.FS).List -/
def F100 (f0 : Option Addr) (dir0 : ByteArray) (h : Heap) (Q : Value → Heap → Prop) : Prop :=
  CallsH Tryz.prog 122 [.pointer f0, .string dir0, .slice none 0 0] h fun r0 h_0 =>
  ∃ (x0 : Option Addr), ∃ (x1 : Int), r0 = .tuple #[.pointer x0, .int .i64 x1] ∧
  (bif (x1 : Int) != 0 then
    Q (.tuple #[.slice none 0 0, .int .i64 x1]) h_0
  else
    NN' x0 fun a0 =>
    Ld h_0 (a0.add 0) fun v0 => DM v0 fun x2 =>
    CallsH Tryz.prog 63 [.map x2] h_0 fun r1 h_1 =>
    ∃ (x3 : Value), r1 = x3 ∧
    CallsH Tryz.prog 62 [x3] h_1 fun r2 h_2 =>
    DSl r2 fun x4a x4l x4c =>
    Q (.tuple #[.slice x4a x4l x4c, .int .i64 0]) h_2)
theorem F100_eq : (fun (f0 : Option Addr) (dir0 : ByteArray) (h : Heap) (Q : Value → Heap → Prop) => fnPT Tryz.prog Tryz.f100 (fun _ => annNil) (fun _ => []) (fun _ => none) [.pointer f0, .string dir0] h Q) = F100 := by kernel_rfl
theorem F100_ok {f0 : Option Addr} {dir0 : ByteArray} {h : Heap} {Q : Value → Heap → Prop} (H : F100 f0 dir0 h Q) : CallsH Tryz.prog 100 [.pointer f0, .string dir0] h Q :=
  callsH_of (ann := fun _ => annNil) (tys := fun _ => []) (pl := fun _ => none) Tryz.func100 (by kernel_rfl) (by have e := F100_eq; exact (congrFun (congrFun (congrFun (congrFun (e) f0) dir0) h) Q).symm ▸ H)

/-- (*headgate/simfs.FS).Dirs -/
def F60 (f0 : Option Addr) (h : Heap) (Q : Value → Heap → Prop) : Prop :=
  (bif (f0).isNone then
    Q (.slice none 0 0) h
  else
    NN' f0 fun a0 =>
    Ld h (a0.add 5) fun v0 => DM v0 fun x0 =>
    CallsH Tryz.prog 127 [.map x0] h fun r0 h_0 =>
    ∃ (x1 : Value), r0 = x1 ∧
    CallsH Tryz.prog 62 [x1] h_0 fun r1 h_1 =>
    DSl r1 fun x2a x2l x2c =>
    Q (.slice x2a x2l x2c) h_1)
theorem F60_eq : (fun (f0 : Option Addr) (h : Heap) (Q : Value → Heap → Prop) => fnPT Tryz.prog Tryz.f60 (fun _ => annNil) (fun _ => []) (fun _ => none) [.pointer f0] h Q) = F60 := by kernel_rfl
theorem F60_ok {f0 : Option Addr} {h : Heap} {Q : Value → Heap → Prop} (H : F60 f0 h Q) : CallsH Tryz.prog 60 [.pointer f0] h Q :=
  callsH_of (ann := fun _ => annNil) (tys := fun _ => []) (pl := fun _ => none) Tryz.func60 (by kernel_rfl) (by have e := F60_eq; exact (congrFun (congrFun (congrFun (e) f0) h) Q).symm ▸ H)

end Go.Proofs.YtibdiikcigokjaaGreat
