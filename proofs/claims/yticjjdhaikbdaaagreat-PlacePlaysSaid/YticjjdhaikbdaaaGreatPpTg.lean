/- The texts over heaps of functions of the program: written by a program of this claim's writer (decomp.py); Lean checks each against the code. -/
import Derived.Test.YticjjdhaikbdaaaGreatPpFwA
import Derived.Test.YticjjdhaikbdaaaGreatProg
namespace Go.Proofs.YticjjdhaikbdaaaGreat
open Go Go.RowKit
set_option linter.unusedVariables false
set_option maxRecDepth 100000

/-- headgate/headgateref06.New -/
def F11b (room0 : Int) (h : Heap) (Q : Value → Heap → Prop) : Prop :=
  (bif decide ((room0 : Int) < 0) then
    Q (.tuple #[.pointer none, .int .i64 2]) h
  else
    (bif decide ((room0 : Int) > 1073741824) then
      Q (.tuple #[.pointer none, .int .i64 2]) h
    else
      Al h (.cells #[.int .i64 room0, .int .i64 0, .int .i64 (-1), .bool false, .slice none 0 0, .slice none 0 0] 97) fun b0 h_0 =>
      Q (.tuple #[.pointer (some (Addr.mk b0 0 none)), .int .i64 0]) h_0))
theorem F11b_eq : (fun (room0 : Int) (h : Heap) (Q : Value → Heap → Prop) => fnPT Tryz.prog Tryz.f11 (fun _ => annNil) (fun _ => []) (fun _ => none) [.int .i64 room0] h Q) = F11b := by kernel_rfl
theorem F11b_ok {room0 : Int} {h : Heap} {Q : Value → Heap → Prop} (H : F11b room0 h Q) : CallsH Tryz.prog 11 [.int .i64 room0] h Q :=
  callsH_of (ann := fun _ => annNil) (tys := fun _ => []) (pl := fun _ => none) Tryz.func11 (by kernel_rfl) (by have e := F11b_eq; exact (congrFun (congrFun (congrFun (e) room0) h) Q).symm ▸ H)

/-- headgate/headgatelaw06.Do -/
def F24b (f0 : Option Addr) (a0 : Int) (a1 : ByteArray) (a2 : ByteArray) (a3 : ByteArray) (a4 : Int) (a5 : Int) (a6a : Option Addr) (a6l : Nat) (a6c : Nat) (h : Heap) (Q : Value → Heap → Prop) : Prop :=
  Al h (.cells #[.int .i64 a0, .string a1, .string a2, .string a3, .int .i64 a4, .int .u8 a5, .slice a6a a6l a6c] 34) fun b0 h_0 =>
  Ld h_0 ((Addr.mk b0 0 none).add 0) fun v0 => DI .i64 v0 fun x0 =>
  (bif (x0 : Int) == 0 then
    Ld h_0 ((Addr.mk b0 0 none).add 1) fun v1 => DS v1 fun x1 =>
    CallsH Tryz.prog 74 [.pointer f0, .string x1] h_0 fun r1 h_1 =>
    DI .i64 r1 fun x2 =>
    Q (.int .i64 x2) h_1
  else
    (bif (x0 : Int) == 1 then
      Ld h_0 ((Addr.mk b0 0 none).add 1) fun v2 => DS v2 fun x3 =>
      Ld h_0 ((Addr.mk b0 0 none).add 2) fun v3 => DS v3 fun x4 =>
      CallsH Tryz.prog 49 [.pointer f0, .string x3, .string x4] h_0 fun r2 h_2 =>
      DI .i64 r2 fun x5 =>
      Q (.int .i64 x5) h_2
    else
      (bif (x0 : Int) == 2 then
        Ld h_0 ((Addr.mk b0 0 none).add 3) fun v4 => DS v4 fun x6 =>
        RunH Tryz.prog (Go.convert 9 40 (.string x6)) h_0 fun r3 h_3 =>
        DSl r3 fun b1a b1l b1c =>
        Ld h_3 ((Addr.mk b0 0 none).add 1) fun v5 => DS v5 fun x7 =>
        Ld h_3 ((Addr.mk b0 0 none).add 2) fun v6 => DS v6 fun x8 =>
        CallsH Tryz.prog 51 [.pointer f0, .string x7, .string x8, .slice b1a b1l b1c] h_3 fun r4 h_4 =>
        DI .i64 r4 fun e0 =>
        LoopH (fun again0 (s0 : Int) h_5 =>
          (bif decide ((s0 : Int) < (b1l : Int)) then
            IdxA b1a b1l s0 1 fun a7 =>
            Ld h_5 a7 fun v7 => DI .u8 v7 fun x9 =>
            IdxA b1a b1l s0 1 fun a8 =>
            StC h_5 (a8.add 0) (.int .u8 (bitsI .xor .u8 x9 255)) fun h_7 =>
            again0 (IntKind.wrap .i64 (s0 + 1)) h_7
          else
            Q (.int .i64 e0) h_5)) 0 h_4
      else
        (bif (x0 : Int) == 3 then
          Ld h_0 ((Addr.mk b0 0 none).add 1) fun v8 => DS v8 fun x10 =>
          Ld h_0 ((Addr.mk b0 0 none).add 2) fun v9 => DS v9 fun x11 =>
          CallsH Tryz.prog 53 [.pointer f0, .string x10, .string x11] h_0 fun r6 h_8 =>
          DI .i64 r6 fun x12 =>
          Q (.int .i64 x12) h_8
        else
          (bif (x0 : Int) == 4 then
            Ld h_0 ((Addr.mk b0 0 none).add 1) fun v10 => DS v10 fun x13 =>
            CallsH Tryz.prog 57 [.pointer f0, .string x13] h_0 fun r7 h_9 =>
            DI .i64 r7 fun x14 =>
            Q (.int .i64 x14) h_9
          else
            (bif (x0 : Int) == 5 then
              Ld h_0 ((Addr.mk b0 0 none).add 1) fun v11 => DS v11 fun x15 =>
              Ld h_0 ((Addr.mk b0 0 none).add 2) fun v12 => DS v12 fun x16 =>
              Ld h_0 ((Addr.mk b0 0 none).add 3) fun v13 => DS v13 fun x17 =>
              CallsH Tryz.prog 55 [.pointer f0, .string x15, .string x16, .string x17] h_0 fun r8 h_10 =>
              DI .i64 r8 fun x18 =>
              Q (.int .i64 x18) h_10
            else
              (bif (x0 : Int) == 6 then
                Ld h_0 ((Addr.mk b0 0 none).add 1) fun v14 => DS v14 fun x19 =>
                Ld h_0 ((Addr.mk b0 0 none).add 2) fun v15 => DS v15 fun x20 =>
                CallsH Tryz.prog 60 [.pointer f0, .string x19, .string x20] h_0 fun r9 h_11 =>
                DI .i64 r9 fun x21 =>
                Q (.int .i64 x21) h_11
              else
                (bif (x0 : Int) == 7 then
                  Ld h_0 ((Addr.mk b0 0 none).add 4) fun v16 => DI .i64 v16 fun x22 =>
                  CallsH Tryz.prog 76 [.pointer f0, .int .i64 x22] h_0 fun r10 h_12 =>
                  DI .i64 r10 fun x23 =>
                  Q (.int .i64 x23) h_12
                else
                  (bif (x0 : Int) == 8 then
                    Ld h_0 ((Addr.mk b0 0 none).add 4) fun v17 => DI .i64 v17 fun x24 =>
                    CallsH Tryz.prog 37 [.pointer f0, .int .i64 x24] h_0 fun r11 h_13 =>
                    DI .i64 r11 fun x25 =>
                    Q (.int .i64 x25) h_13
                  else
                    (bif (x0 : Int) == 9 then
                      Ld h_0 ((Addr.mk b0 0 none).add 6) fun v18 => DSl v18 fun x26a x26l x26c =>
                      CallsH Tryz.prog 38 [.pointer f0, .slice x26a x26l x26c] h_0 fun r12 h_14 =>
                      DI .i64 r12 fun x27 =>
                      Q (.int .i64 x27) h_14
                    else
                      (bif (x0 : Int) == 10 then
                        Ld h_0 ((Addr.mk b0 0 none).add 1) fun v19 => DS v19 fun x28 =>
                        Ld h_0 ((Addr.mk b0 0 none).add 2) fun v20 => DS v20 fun x29 =>
                        Ld h_0 ((Addr.mk b0 0 none).add 4) fun v21 => DI .i64 v21 fun x30 =>
                        Ld h_0 ((Addr.mk b0 0 none).add 5) fun v22 => DI .u8 v22 fun x31 =>
                        CallsH Tryz.prog 77 [.pointer f0, .string x28, .string x29, .int .i64 x30, .int .u8 x31] h_0 fun r13 h_15 =>
                        DI .i64 r13 fun x32 =>
                        Q (.int .i64 x32) h_15
                      else
                        (bif (x0 : Int) == 11 then
                          Ld h_0 ((Addr.mk b0 0 none).add 1) fun v23 => DS v23 fun x33 =>
                          Ld h_0 ((Addr.mk b0 0 none).add 2) fun v24 => DS v24 fun x34 =>
                          Ld h_0 ((Addr.mk b0 0 none).add 3) fun v25 => DS v25 fun x35 =>
                          RunH Tryz.prog (Go.convert 9 40 (.string x35)) h_0 fun r14 h_16 =>
                          DSl r14 fun x36a x36l x36c =>
                          CallsH Tryz.prog 78 [.pointer f0, .string x33, .string x34, .slice x36a x36l x36c] h_16 fun r15 h_17 =>
                          DI .i64 r15 fun x37 =>
                          Q (.int .i64 x37) h_17
                        else
                          Q (.int .i64 0) h_0))))))))))))
theorem F24b_eq : (fun (f0 : Option Addr) (a0 : Int) (a1 : ByteArray) (a2 : ByteArray) (a3 : ByteArray) (a4 : Int) (a5 : Int) (a6a : Option Addr) (a6l : Nat) (a6c : Nat) (h : Heap) (Q : Value → Heap → Prop) => fnPT Tryz.prog Tryz.f24 (fun i => bif Nat.beq i 1 then annOne 7 (codI .i64) else annNil) (fun _ => []) (fun _ => none) [.pointer f0, .agg #[.int .i64 a0, .string a1, .string a2, .string a3, .int .i64 a4, .int .u8 a5, .slice a6a a6l a6c]] h Q) = F24b := by kernel_rfl
theorem F24b_ok {f0 : Option Addr} {a0 : Int} {a1 : ByteArray} {a2 : ByteArray} {a3 : ByteArray} {a4 : Int} {a5 : Int} {a6a : Option Addr} {a6l : Nat} {a6c : Nat} {h : Heap} {Q : Value → Heap → Prop} (H : F24b f0 a0 a1 a2 a3 a4 a5 a6a a6l a6c h Q) : CallsH Tryz.prog 24 [.pointer f0, .agg #[.int .i64 a0, .string a1, .string a2, .string a3, .int .i64 a4, .int .u8 a5, .slice a6a a6l a6c]] h Q :=
  callsH_of (ann := fun i => bif Nat.beq i 1 then annOne 7 (codI .i64) else annNil) (tys := fun _ => []) (pl := fun _ => none) Tryz.func24 (by kernel_rfl) (by have e := F24b_eq; exact (congrFun (congrFun (congrFun (congrFun (congrFun (congrFun (congrFun (congrFun (congrFun (congrFun (congrFun (congrFun (e) f0) a0) a1) a2) a3) a4) a5) a6a) a6l) a6c) h) Q).symm ▸ H)

/-- (*headgate/headgateref06.FS).Do -/
def F25b (f0 : Option Addr) (a0 : Int) (a1 : ByteArray) (a2 : ByteArray) (a3 : ByteArray) (a4 : Int) (a5 : Int) (a6a : Option Addr) (a6l : Nat) (a6c : Nat) (h : Heap) (Q : Value → Heap → Prop) : Prop :=
  Al h (.cells #[.int .i64 a0, .string a1, .string a2, .string a3, .int .i64 a4, .int .u8 a5, .slice a6a a6l a6c] 34) fun b0 h_0 =>
  Ld h_0 ((Addr.mk b0 0 none).add 0) fun v0 => DI .i64 v0 fun x0 =>
  (bif (x0 : Int) == 0 then
    Ld h_0 ((Addr.mk b0 0 none).add 1) fun v1 => DS v1 fun x1 =>
    CallsH Tryz.prog 75 [.pointer f0, .string x1] h_0 fun r1 h_1 =>
    DI .i64 r1 fun x2 =>
    Q (.int .i64 x2) h_1
  else
    (bif (x0 : Int) == 1 then
      Ld h_0 ((Addr.mk b0 0 none).add 1) fun v2 => DS v2 fun x3 =>
      Ld h_0 ((Addr.mk b0 0 none).add 2) fun v3 => DS v3 fun x4 =>
      CallsH Tryz.prog 64 [.pointer f0, .string x3, .string x4] h_0 fun r2 h_2 =>
      DI .i64 r2 fun x5 =>
      Q (.int .i64 x5) h_2
    else
      (bif (x0 : Int) == 2 then
        Ld h_0 ((Addr.mk b0 0 none).add 1) fun v4 => DS v4 fun x6 =>
        Ld h_0 ((Addr.mk b0 0 none).add 2) fun v5 => DS v5 fun x7 =>
        Ld h_0 ((Addr.mk b0 0 none).add 3) fun v6 => DS v6 fun x8 =>
        CallsH Tryz.prog 65 [.pointer f0, .string x6, .string x7, .string x8] h_0 fun r3 h_3 =>
        DI .i64 r3 fun x9 =>
        Q (.int .i64 x9) h_3
      else
        (bif (x0 : Int) == 3 then
          Ld h_0 ((Addr.mk b0 0 none).add 1) fun v7 => DS v7 fun x10 =>
          Ld h_0 ((Addr.mk b0 0 none).add 2) fun v8 => DS v8 fun x11 =>
          CallsH Tryz.prog 66 [.pointer f0, .string x10, .string x11] h_0 fun r4 h_4 =>
          DI .i64 r4 fun x12 =>
          Q (.int .i64 x12) h_4
        else
          (bif (x0 : Int) == 4 then
            Ld h_0 ((Addr.mk b0 0 none).add 1) fun v9 => DS v9 fun x13 =>
            CallsH Tryz.prog 68 [.pointer f0, .string x13] h_0 fun r5 h_5 =>
            DI .i64 r5 fun x14 =>
            Q (.int .i64 x14) h_5
          else
            (bif (x0 : Int) == 5 then
              Ld h_0 ((Addr.mk b0 0 none).add 1) fun v10 => DS v10 fun x15 =>
              Ld h_0 ((Addr.mk b0 0 none).add 2) fun v11 => DS v11 fun x16 =>
              Ld h_0 ((Addr.mk b0 0 none).add 3) fun v12 => DS v12 fun x17 =>
              CallsH Tryz.prog 67 [.pointer f0, .string x15, .string x16, .string x17] h_0 fun r6 h_6 =>
              DI .i64 r6 fun x18 =>
              Q (.int .i64 x18) h_6
            else
              (bif (x0 : Int) == 6 then
                Ld h_0 ((Addr.mk b0 0 none).add 1) fun v13 => DS v13 fun x19 =>
                Ld h_0 ((Addr.mk b0 0 none).add 2) fun v14 => DS v14 fun x20 =>
                CallsH Tryz.prog 63 [.pointer f0, .string x19, .string x20] h_0 fun r7 h_7 =>
                DI .i64 r7 fun x21 =>
                Q (.int .i64 x21) h_7
              else
                (bif (x0 : Int) == 7 then
                  Ld h_0 ((Addr.mk b0 0 none).add 4) fun v15 => DI .i64 v15 fun x22 =>
                  CallsH Tryz.prog 79 [.pointer f0, .int .i64 x22] h_0 fun r8 h_8 =>
                  DI .i64 r8 fun x23 =>
                  Q (.int .i64 x23) h_8
                else
                  (bif (x0 : Int) == 8 then
                    Ld h_0 ((Addr.mk b0 0 none).add 4) fun v16 => DI .i64 v16 fun x24 =>
                    CallsH Tryz.prog 80 [.pointer f0, .int .i64 x24] h_0 fun r9 h_9 =>
                    DI .i64 r9 fun x25 =>
                    Q (.int .i64 x25) h_9
                  else
                    (bif (x0 : Int) == 9 then
                      Ld h_0 ((Addr.mk b0 0 none).add 6) fun v17 => DSl v17 fun x26a x26l x26c =>
                      CallsH Tryz.prog 81 [.pointer f0, .slice x26a x26l x26c] h_0 fun r10 h_10 =>
                      r10 = .tuple #[] ∧
                      Q (.int .i64 0) h_10
                    else
                      (bif (x0 : Int) == 10 then
                        Ld h_0 ((Addr.mk b0 0 none).add 1) fun v18 => DS v18 fun x27 =>
                        Ld h_0 ((Addr.mk b0 0 none).add 2) fun v19 => DS v19 fun x28 =>
                        Ld h_0 ((Addr.mk b0 0 none).add 4) fun v20 => DI .i64 v20 fun x29 =>
                        Ld h_0 ((Addr.mk b0 0 none).add 5) fun v21 => DI .u8 v21 fun x30 =>
                        CallsH Tryz.prog 82 [.pointer f0, .string x27, .string x28, .int .i64 x29, .int .u8 x30] h_0 fun r11 h_11 =>
                        DI .i64 r11 fun x31 =>
                        Q (.int .i64 x31) h_11
                      else
                        (bif (x0 : Int) == 11 then
                          Ld h_0 ((Addr.mk b0 0 none).add 1) fun v22 => DS v22 fun x32 =>
                          Ld h_0 ((Addr.mk b0 0 none).add 2) fun v23 => DS v23 fun x33 =>
                          Ld h_0 ((Addr.mk b0 0 none).add 3) fun v24 => DS v24 fun x34 =>
                          CallsH Tryz.prog 83 [.pointer f0, .string x32, .string x33, .string x34] h_0 fun r12 h_12 =>
                          DI .i64 r12 fun x35 =>
                          Q (.int .i64 x35) h_12
                        else
                          Q (.int .i64 0) h_0))))))))))))
theorem F25b_eq : (fun (f0 : Option Addr) (a0 : Int) (a1 : ByteArray) (a2 : ByteArray) (a3 : ByteArray) (a4 : Int) (a5 : Int) (a6a : Option Addr) (a6l : Nat) (a6c : Nat) (h : Heap) (Q : Value → Heap → Prop) => fnPT Tryz.prog Tryz.f25 (fun _ => annNil) (fun _ => []) (fun _ => none) [.pointer f0, .agg #[.int .i64 a0, .string a1, .string a2, .string a3, .int .i64 a4, .int .u8 a5, .slice a6a a6l a6c]] h Q) = F25b := by kernel_rfl
theorem F25b_ok {f0 : Option Addr} {a0 : Int} {a1 : ByteArray} {a2 : ByteArray} {a3 : ByteArray} {a4 : Int} {a5 : Int} {a6a : Option Addr} {a6l : Nat} {a6c : Nat} {h : Heap} {Q : Value → Heap → Prop} (H : F25b f0 a0 a1 a2 a3 a4 a5 a6a a6l a6c h Q) : CallsH Tryz.prog 25 [.pointer f0, .agg #[.int .i64 a0, .string a1, .string a2, .string a3, .int .i64 a4, .int .u8 a5, .slice a6a a6l a6c]] h Q :=
  callsH_of (ann := fun _ => annNil) (tys := fun _ => []) (pl := fun _ => none) Tryz.func25 (by kernel_rfl) (by have e := F25b_eq; exact (congrFun (congrFun (congrFun (congrFun (congrFun (congrFun (congrFun (congrFun (congrFun (congrFun (congrFun (congrFun (e) f0) a0) a1) a2) a3) a4) a5) a6a) a6l) a6c) h) Q).symm ▸ H)

/-- headgate/headgatelaw06.Shows -/
def F26b (f0 : Option Addr) (m0 : Option Addr) (h : Heap) (Q : Value → Heap → Prop) : Prop :=
  ∃ r1, (CallsH Tryz.prog 84 [.pointer f0] h fun r0 h_0 =>
  r0 = r1 ∧ h_0 = h) ∧
  DI .i64 r1 fun x0 =>
  ∃ r3, (CallsH Tryz.prog 85 [.pointer m0] h fun r2 h_1 =>
  r2 = r3 ∧ h_1 = h) ∧
  DI .i64 r3 fun x1 =>
  (bif (x0 : Int) != x1 then
    Q (.bool false) h
  else
    ∃ r5, (CallsH Tryz.prog 32 [.pointer f0] h fun r4 h_2 =>
    r4 = r5 ∧ h_2 = h) ∧
    DI .i64 r5 fun x2 =>
    NN' m0 fun a0 =>
    Ld h (a0.add 1) fun v0 => DI .i64 v0 fun x3 =>
    (bif (x2 : Int) != x3 then
      Q (.bool false) h
    else
      ∃ r7, (CallsH Tryz.prog 86 [.pointer f0] h fun r6 h_3 =>
      r6 = r7 ∧ h_3 = h) ∧
      DB r7 fun x4 =>
      NN' m0 fun a1 =>
      Ld h (a1.add 3) fun v1 => DB v1 fun x5 =>
      (bif x4 == x5 then
        Q (.bool false) h
      else
        CallsH Tryz.prog 87 [.pointer f0] h fun r8 h_4 =>
        DSl r8 fun dirs0a dirs0l dirs0c =>
        NN' m0 fun a2 =>
        Ld h_4 (a2.add 5) fun v2 => DSl v2 fun x6a x6l x6c =>
        (bif ((dirs0l : Int) : Int) != (x6l : Int) then
          Q (.bool false) h_4
        else
          LoopH (fun again0 (s0 : Int) h_5 =>
            (bif decide ((s0 : Int) < (dirs0l : Int)) then
              IdxA dirs0a dirs0l s0 1 fun a3 =>
              Ld h_5 a3 fun v3 => DS v3 fun x7 =>
              CallsH Tryz.prog 47 [.pointer f0, .string x7] h_5 fun r9 h_6 =>
              ∃ (x8a : Option Addr), ∃ (x8l : Nat), ∃ (x8c : Nat), ∃ (x9 : Int), r9 = .tuple #[.slice x8a x8l x8c, .int .i64 x9] ∧
              NN' m0 fun a4 =>
              Ld h_6 (a4.add 5) fun v4 => DSl v4 fun x10a x10l x10c =>
              IdxA x10a x10l s0 4 fun a5 =>
              Ld h_6 (a5.add 0) fun v5 => DS v5 fun x11 =>
              CallsH Tryz.prog 61 [.pointer m0, .string x11] h_6 fun r10 h_7 =>
              ∃ (x12a : Option Addr), ∃ (x12l : Nat), ∃ (x12c : Nat), ∃ (x13 : Int), r10 = .tuple #[.slice x12a x12l x12c, .int .i64 x13] ∧
              IdxA dirs0a dirs0l s0 1 fun a6 =>
              Ld h_7 a6 fun v6 => DS v6 fun x14 =>
              NN' m0 fun a7 =>
              Ld h_7 (a7.add 5) fun v7 => DSl v7 fun x15a x15l x15c =>
              IdxA x15a x15l s0 4 fun a8 =>
              Ld h_7 (a8.add 0) fun v8 => DS v8 fun x16 =>
              (bif !strEq x14 x16 then
                Q (.bool false) h_7
              else
                (bif (x9 : Int) != x13 then
                  Q (.bool false) h_7
                else
                  (bif ((x8l : Int) : Int) != (x12l : Int) then
                    Q (.bool false) h_7
                  else
                    LoopH (fun again1 (s1 : Int) h_8 =>
                      (bif decide ((s1 : Int) < (x8l : Int)) then
                        IdxA dirs0a dirs0l s0 1 fun a9 =>
                        Ld h_8 a9 fun v9 => DS v9 fun x17 =>
                        IdxA x8a x8l s1 1 fun a10 =>
                        Ld h_8 a10 fun v10 => DS v10 fun x18 =>
                        CallsH Tryz.prog 69 [.pointer f0, .string x17, .string x18] h_8 fun r11 h_9 =>
                        ∃ (x19a : Option Addr), ∃ (x19l : Nat), ∃ (x19c : Nat), ∃ (x20 : Int), r11 = .tuple #[.slice x19a x19l x19c, .int .i64 x20] ∧
                        IdxA dirs0a dirs0l s0 1 fun a11 =>
                        Ld h_9 a11 fun v11 => DS v11 fun x21 =>
                        IdxA x12a x12l s1 1 fun a12 =>
                        Ld h_9 a12 fun v12 => DS v12 fun x22 =>
                        CallsH Tryz.prog 71 [.pointer m0, .string x21, .string x22] h_9 fun r12 h_10 =>
                        ∃ (x23 : ByteArray), ∃ (x24 : Int), r12 = .tuple #[.string x23, .int .i64 x24] ∧
                        IdxA x8a x8l s1 1 fun a13 =>
                        Ld h_10 a13 fun v13 => DS v13 fun x25 =>
                        IdxA x12a x12l s1 1 fun a14 =>
                        Ld h_10 a14 fun v14 => DS v14 fun x26 =>
                        (bif !strEq x25 x26 then
                          Q (.bool false) h_10
                        else
                          (bif (x20 : Int) != x24 then
                            Q (.bool false) h_10
                          else
                            ∃ bs0 : ByteArray, BytesIn h_10 x19a x19l bs0 ∧
                            (bif !strEq bs0 x23 then
                              Q (.bool false) h_10
                            else
                              again1 (IntKind.wrap .i64 (s1 + 1)) h_10)))
                      else
                        again0 (IntKind.wrap .i64 (s0 + 1)) h_8)) 0 h_7)))
            else
              Q (.bool true) h_5)) 0 h_4))))
theorem F26b_eq : (fun (f0 : Option Addr) (m0 : Option Addr) (h : Heap) (Q : Value → Heap → Prop) => fnPT Tryz.prog Tryz.f26 (fun i => bif Nat.beq i 0 then annOne 6 (codI .i64) else bif Nat.beq i 2 then annOne 11 (codI .i64) else annNil) (fun _ => []) (fun i => bif Nat.beq i 16 then some ⟨[0, 0, 0, 6, 14, 0, 0, 96, 224, 511, 1023, 2047, 2047, 4095, 16383], 512⟩ else bif Nat.beq i 17 then some ⟨[0, 0, 0, 6, 14, 0, 0, 96, 224, 511, 1023, 2047, 2047, 4095, 16383], 512⟩ else none) [.pointer f0, .pointer m0] h Q) = F26b := by kernel_rfl
theorem F26b_ok {f0 : Option Addr} {m0 : Option Addr} {h : Heap} {Q : Value → Heap → Prop} (H : F26b f0 m0 h Q) : CallsH Tryz.prog 26 [.pointer f0, .pointer m0] h Q :=
  callsH_of (ann := fun i => bif Nat.beq i 0 then annOne 6 (codI .i64) else bif Nat.beq i 2 then annOne 11 (codI .i64) else annNil) (tys := fun _ => []) (pl := fun i => bif Nat.beq i 16 then some ⟨[0, 0, 0, 6, 14, 0, 0, 96, 224, 511, 1023, 2047, 2047, 4095, 16383], 512⟩ else bif Nat.beq i 17 then some ⟨[0, 0, 0, 6, 14, 0, 0, 96, 224, 511, 1023, 2047, 2047, 4095, 16383], 512⟩ else none) Tryz.func26 (by kernel_rfl) (by have e := F26b_eq; exact (congrFun (congrFun (congrFun (congrFun (e) f0) m0) h) Q).symm ▸ H)

/-- (*headgate/simfs.FS).Room -/
def F76b (f0 : Option Addr) (n0 : Int) (h : Heap) (Q : Value → Heap → Prop) : Prop :=
  (bif (f0).isNone then
    Q (.int .i64 1) h
  else
    (bif decide ((n0 : Int) < 0) then
      Q (.int .i64 2) h
    else
      (bif decide ((n0 : Int) > 1073741824) then
        Q (.int .i64 2) h
      else
        NN' f0 fun a0 =>
        StC h ((a0.add 0).add 0) (.int .i64 n0) fun h_1 =>
        Q (.int .i64 0) h_1)))
theorem F76b_eq : (fun (f0 : Option Addr) (n0 : Int) (h : Heap) (Q : Value → Heap → Prop) => fnPT Tryz.prog Tryz.f76 (fun _ => annNil) (fun _ => []) (fun _ => none) [.pointer f0, .int .i64 n0] h Q) = F76b := by kernel_rfl
theorem F76b_ok {f0 : Option Addr} {n0 : Int} {h : Heap} {Q : Value → Heap → Prop} (H : F76b f0 n0 h Q) : CallsH Tryz.prog 76 [.pointer f0, .int .i64 n0] h Q :=
  callsH_of (ann := fun _ => annNil) (tys := fun _ => []) (pl := fun _ => none) Tryz.func76 (by kernel_rfl) (by have e := F76b_eq; exact (congrFun (congrFun (congrFun (congrFun (e) f0) n0) h) Q).symm ▸ H)

/-- (*headgate/simfs.FS).Spoil -/
def F77b (f0 : Option Addr) (dir0 : ByteArray) (name0 : ByteArray) (at_0 : Int) (turn0 : Int) (h : Heap) (Q : Value → Heap → Prop) : Prop :=
  (bif (f0).isNone then
    Q (.int .i64 1) h
  else
    Al h (.cells #[.string name0] 9) fun b0 h_0 =>
    CallsH Tryz.prog 136 [.pointer f0, .string dir0, .slice (some (Addr.mk b0 0 none)) 1 1] h_0 fun r1 h_1 =>
    ∃ (x0 : Option Addr), ∃ (x1 : Int), r1 = .tuple #[.pointer x0, .int .i64 x1] ∧
    (bif (x1 : Int) != 0 then
      Q (.int .i64 x1) h_1
    else
      NN' x0 fun a0 =>
      Ld h_1 (a0.add 0) fun v0 => DM v0 fun x2 =>
      ∃ es0, mapEs h_1 x2 es0 ∧ ∃ f1, Instr.findNow .string (.string name0) (es0 : Array MapEntry).toList 0 = some f1 ∧
      DP ((Option.map (fun x => x.2) f1).getD (.pointer none)) fun x3 =>
      (bif (x3).isNone then
        Q (.int .i64 62) h_1
      else
        (bif decide ((at_0 : Int) < 0) then
          Q (.int .i64 2) h_1
        else
          NN' x0 fun a1 =>
          Ld h_1 (a1.add 0) fun v1 => DM v1 fun x4 =>
          ∃ es1, mapEs h_1 x4 es1 ∧ ∃ f2, Instr.findNow .string (.string name0) (es1 : Array MapEntry).toList 0 = some f2 ∧
          DP ((Option.map (fun x => x.2) f2).getD (.pointer none)) fun x5 =>
          NN' x5 fun a2 =>
          Ld h_1 (a2.add 0) fun v2 => DSl v2 fun x6a x6l x6c =>
          (bif decide ((at_0 : Int) ≥ (x6l : Int)) then
            Q (.int .i64 2) h_1
          else
            NN' x0 fun a3 =>
            Ld h_1 (a3.add 0) fun v3 => DM v3 fun x7 =>
            ∃ es2, mapEs h_1 x7 es2 ∧ ∃ f3, Instr.findNow .string (.string name0) (es2 : Array MapEntry).toList 0 = some f3 ∧
            DP ((Option.map (fun x => x.2) f3).getD (.pointer none)) fun x8 =>
            NN' x8 fun a4 =>
            Ld h_1 (a4.add 0) fun v4 => DSl v4 fun x9a x9l x9c =>
            IdxA x9a x9l at_0 1 fun a5 =>
            Ld h_1 a5 fun v5 => DI .u8 v5 fun x10 =>
            IdxA x9a x9l at_0 1 fun a6 =>
            StC h_1 (a6.add 0) (.int .u8 (bitsI .xor .u8 x10 turn0)) fun h_3 =>
            Q (.int .i64 0) h_3)))))
theorem F77b_eq : (fun (f0 : Option Addr) (dir0 : ByteArray) (name0 : ByteArray) (at_0 : Int) (turn0 : Int) (h : Heap) (Q : Value → Heap → Prop) => fnPT Tryz.prog Tryz.f77 (fun _ => annNil) (fun _ => []) (fun _ => none) [.pointer f0, .string dir0, .string name0, .int .i64 at_0, .int .u8 turn0] h Q) = F77b := by kernel_rfl
theorem F77b_ok {f0 : Option Addr} {dir0 : ByteArray} {name0 : ByteArray} {at_0 : Int} {turn0 : Int} {h : Heap} {Q : Value → Heap → Prop} (H : F77b f0 dir0 name0 at_0 turn0 h Q) : CallsH Tryz.prog 77 [.pointer f0, .string dir0, .string name0, .int .i64 at_0, .int .u8 turn0] h Q :=
  callsH_of (ann := fun _ => annNil) (tys := fun _ => []) (pl := fun _ => none) Tryz.func77 (by kernel_rfl) (by have e := F77b_eq; exact (congrFun (congrFun (congrFun (congrFun (congrFun (congrFun (congrFun (e) f0) dir0) name0) at_0) turn0) h) Q).symm ▸ H)

/-- (*headgate/headgateref06.FS).Mkdir -/
def F75b (f0 : Option Addr) (dir0 : ByteArray) (h : Heap) (Q : Value → Heap → Prop) : Prop :=
  CallsH Tryz.prog 127 [.pointer f0, .string dir0, .string dir0, .string dir0] h fun r0 h_0 =>
  ∃ (x0 : Int), ∃ (x1 : Int), r0 = .tuple #[.int .i64 x0, .int .i64 x1] ∧
  (bif (x1 : Int) == 0 then
    Q (.int .i64 63) h_0
  else
    (bif (x1 : Int) != 61 then
      Q (.int .i64 x1) h_0
    else
      NN' f0 fun a0 =>
      Ld h_0 (a0.add 5) fun v0 => DSl v0 fun x2a x2l x2c =>
      (bif decide (((x2l : Int) : Int) ≥ 64) then
        Q (.int .i64 66) h_0
      else
        CallsH Tryz.prog 131 [.pointer f0] h_0 fun r1 h_1 =>
        DI .i64 r1 fun e0 =>
        (bif (e0 : Int) != 0 then
          Q (.int .i64 e0) h_1
        else
          LoopH (fun again0 (s0 : Sl × Bool × Int) h_2 =>
            NN' f0 fun a1 =>
            Ld h_2 (a1.add 5) fun v1 => DSl v1 fun x3a x3l x3c =>
            (bif decide ((s0.2.2 : Int) < (x3l : Int)) then
              (bif !s0.2.1 then
                NN' f0 fun a2 =>
                Ld h_2 (a2.add 5) fun v2 => DSl v2 fun x4a x4l x4c =>
                IdxA x4a x4l s0.2.2 4 fun a3 =>
                Ld h_2 (a3.add 0) fun v3 => DS v3 fun x5 =>
                (bif !(strLt x5 dir0 || strEq x5 dir0) then
                  Al h_2 (.cells #[.string dir0, .slice none 0 0, .slice none 0 0, .slice none 0 0] 127) fun b0 h_3 =>
                  RunH Tryz.prog (Builtin.append_ #[95, 95] 95 #[.slice s0.1.a s0.1.l s0.1.c, .slice (some (Addr.mk b0 0 none)) 1 1]) h_3 fun r3 h_4 =>
                  DSl r3 fun l_0a l_0l l_0c =>
                  NN' f0 fun a4 =>
                  Ld h_4 (a4.add 5) fun v4 => DSl v4 fun x6a x6l x6c =>
                  IdxA x6a x6l s0.2.2 4 fun a5 =>
                  Ld h_4 (a5.add 0) fun c0 =>
                  Ld h_4 (a5.add 1) fun c1 =>
                  Ld h_4 (a5.add 2) fun c2 =>
                  Ld h_4 (a5.add 3) fun c3 =>
                  ∃ (x7 : ByteArray), ∃ (x8a : Option Addr), ∃ (x8l : Nat), ∃ (x8c : Nat), ∃ (x9a : Option Addr), ∃ (x9l : Nat), ∃ (x9c : Nat), ∃ (x10a : Option Addr), ∃ (x10l : Nat), ∃ (x10c : Nat), (Value.agg #[c0, c1, c2, c3]) = .agg #[.string x7, .slice x8a x8l x8c, .slice x9a x9l x9c, .slice x10a x10l x10c] ∧
                  Al h_4 (.cells #[.string x7, .slice x8a x8l x8c, .slice x9a x9l x9c, .slice x10a x10l x10c] 127) fun b1 h_5 =>
                  RunH Tryz.prog (Builtin.append_ #[95, 95] 95 #[.slice l_0a l_0l l_0c, .slice (some (Addr.mk b1 0 none)) 1 1]) h_5 fun r5 h_6 =>
                  DSl r5 fun l_1a l_1l l_1c =>
                  again0 (⟨l_1a, l_1l, l_1c⟩, true, IntKind.wrap .i64 (s0.2.2 + 1)) h_6
                else
                  NN' f0 fun a6 =>
                  Ld h_2 (a6.add 5) fun v5 => DSl v5 fun x11a x11l x11c =>
                  IdxA x11a x11l s0.2.2 4 fun a7 =>
                  Ld h_2 (a7.add 0) fun c4 =>
                  Ld h_2 (a7.add 1) fun c5 =>
                  Ld h_2 (a7.add 2) fun c6 =>
                  Ld h_2 (a7.add 3) fun c7 =>
                  ∃ (x12 : ByteArray), ∃ (x13a : Option Addr), ∃ (x13l : Nat), ∃ (x13c : Nat), ∃ (x14a : Option Addr), ∃ (x14l : Nat), ∃ (x14c : Nat), ∃ (x15a : Option Addr), ∃ (x15l : Nat), ∃ (x15c : Nat), (Value.agg #[c4, c5, c6, c7]) = .agg #[.string x12, .slice x13a x13l x13c, .slice x14a x14l x14c, .slice x15a x15l x15c] ∧
                  Al h_2 (.cells #[.string x12, .slice x13a x13l x13c, .slice x14a x14l x14c, .slice x15a x15l x15c] 127) fun b2 h_7 =>
                  RunH Tryz.prog (Builtin.append_ #[95, 95] 95 #[.slice s0.1.a s0.1.l s0.1.c, .slice (some (Addr.mk b2 0 none)) 1 1]) h_7 fun r7 h_8 =>
                  DSl r7 fun l_2a l_2l l_2c =>
                  again0 (⟨l_2a, l_2l, l_2c⟩, s0.2.1, IntKind.wrap .i64 (s0.2.2 + 1)) h_8)
              else
                NN' f0 fun a8 =>
                Ld h_2 (a8.add 5) fun v6 => DSl v6 fun x16a x16l x16c =>
                IdxA x16a x16l s0.2.2 4 fun a9 =>
                Ld h_2 (a9.add 0) fun c8 =>
                Ld h_2 (a9.add 1) fun c9 =>
                Ld h_2 (a9.add 2) fun c10 =>
                Ld h_2 (a9.add 3) fun c11 =>
                ∃ (x17 : ByteArray), ∃ (x18a : Option Addr), ∃ (x18l : Nat), ∃ (x18c : Nat), ∃ (x19a : Option Addr), ∃ (x19l : Nat), ∃ (x19c : Nat), ∃ (x20a : Option Addr), ∃ (x20l : Nat), ∃ (x20c : Nat), (Value.agg #[c8, c9, c10, c11]) = .agg #[.string x17, .slice x18a x18l x18c, .slice x19a x19l x19c, .slice x20a x20l x20c] ∧
                Al h_2 (.cells #[.string x17, .slice x18a x18l x18c, .slice x19a x19l x19c, .slice x20a x20l x20c] 127) fun b3 h_9 =>
                RunH Tryz.prog (Builtin.append_ #[95, 95] 95 #[.slice s0.1.a s0.1.l s0.1.c, .slice (some (Addr.mk b3 0 none)) 1 1]) h_9 fun r9 h_10 =>
                DSl r9 fun l_3a l_3l l_3c =>
                again0 (⟨l_3a, l_3l, l_3c⟩, s0.2.1, IntKind.wrap .i64 (s0.2.2 + 1)) h_10)
            else
              (bif !s0.2.1 then
                Al h_2 (.cells #[.string dir0, .slice none 0 0, .slice none 0 0, .slice none 0 0] 127) fun b4 h_11 =>
                RunH Tryz.prog (Builtin.append_ #[95, 95] 95 #[.slice s0.1.a s0.1.l s0.1.c, .slice (some (Addr.mk b4 0 none)) 1 1]) h_11 fun r11 h_12 =>
                DSl r11 fun l_4a l_4l l_4c =>
                NN' f0 fun a10 =>
                StC h_12 ((a10.add 5).add 0) (.slice l_4a l_4l l_4c) fun h_14 =>
                Q (.int .i64 0) h_14
              else
                NN' f0 fun a11 =>
                StC h_2 ((a11.add 5).add 0) (.slice s0.1.a s0.1.l s0.1.c) fun h_16 =>
                Q (.int .i64 0) h_16))) (⟨none, 0, 0⟩, false, 0) h_1))))
theorem F75b_eq : (fun (f0 : Option Addr) (dir0 : ByteArray) (h : Heap) (Q : Value → Heap → Prop) => fnPT Tryz.prog Tryz.f75 (fun i => bif Nat.beq i 0 then annCons 7 (codSl) (annCons 8 (codB) (annOne 9 (codI .i64))) else annNil) (fun _ => []) (fun _ => none) [.pointer f0, .string dir0] h Q) = F75b := by kernel_rfl
theorem F75b_ok {f0 : Option Addr} {dir0 : ByteArray} {h : Heap} {Q : Value → Heap → Prop} (H : F75b f0 dir0 h Q) : CallsH Tryz.prog 75 [.pointer f0, .string dir0] h Q :=
  callsH_of (ann := fun i => bif Nat.beq i 0 then annCons 7 (codSl) (annCons 8 (codB) (annOne 9 (codI .i64))) else annNil) (tys := fun _ => []) (pl := fun _ => none) Tryz.func75 (by kernel_rfl) (by have e := F75b_eq; exact (congrFun (congrFun (congrFun (congrFun (e) f0) dir0) h) Q).symm ▸ H)

/-- (*headgate/headgateref06.FS).Create -/
def F64b (f0 : Option Addr) (dir0 : ByteArray) (name0 : ByteArray) (h : Heap) (Q : Value → Heap → Prop) : Prop :=
  CallsH Tryz.prog 127 [.pointer f0, .string dir0, .string name0, .string name0] h fun r0 h_0 =>
  ∃ (x0 : Int), ∃ (x1 : Int), r0 = .tuple #[.int .i64 x0, .int .i64 x1] ∧
  (bif (x1 : Int) != 0 then
    Q (.int .i64 x1) h_0
  else
    NN' f0 fun a0 =>
    Ld h_0 (a0.add 5) fun v0 => DSl v0 fun x2a x2l x2c =>
    IdxA x2a x2l x0 4 fun a1 =>
    Ld h_0 (a1.add 1) fun v1 => DSl v1 fun x3a x3l x3c =>
    CallsH Tryz.prog 130 [.slice x3a x3l x3c, .string name0] h_0 fun r1 h_1 =>
    DI .i64 r1 fun x4 =>
    (bif decide ((x4 : Int) ≥ 0) then
      Q (.int .i64 63) h_1
    else
      NN' f0 fun a2 =>
      Ld h_1 (a2.add 5) fun v2 => DSl v2 fun x5a x5l x5c =>
      IdxA x5a x5l x0 4 fun a3 =>
      Ld h_1 (a3.add 1) fun v3 => DSl v3 fun x6a x6l x6c =>
      (bif decide (((x6l : Int) : Int) ≥ 4096) then
        Q (.int .i64 66) h_1
      else
        NN' f0 fun a4 =>
        Ld h_1 (a4.add 4) fun v4 => DSl v4 fun x7a x7l x7c =>
        CallsH Tryz.prog 129 [.pointer f0, .int .i64 x0, .agg #[.int .i64 1, .string name0, .string .empty, .int .i64 (x7l : Int)]] h_1 fun r2 h_2 =>
        DI .i64 r2 fun e0 =>
        (bif (e0 : Int) == 0 then
          NN' f0 fun a5 =>
          Ld h_2 (a5.add 4) fun v5 => DSl v5 fun x8a x8l x8c =>
          Al h_2 (.cells #[.string .empty, .int .i64 0] 202) fun b0 h_3 =>
          RunH Tryz.prog (Builtin.append_ #[94, 94] 94 #[.slice x8a x8l x8c, .slice (some (Addr.mk b0 0 none)) 1 1]) h_3 fun r4 h_4 =>
          DSl r4 fun x9a x9l x9c =>
          NN' f0 fun a6 =>
          StC h_4 ((a6.add 4).add 0) (.slice x9a x9l x9c) fun h_6 =>
          Q (.int .i64 e0) h_6
        else
          Q (.int .i64 e0) h_2))))
theorem F64b_eq : (fun (f0 : Option Addr) (dir0 : ByteArray) (name0 : ByteArray) (h : Heap) (Q : Value → Heap → Prop) => fnPT Tryz.prog Tryz.f64 (fun _ => annNil) (fun _ => []) (fun _ => none) [.pointer f0, .string dir0, .string name0] h Q) = F64b := by kernel_rfl
theorem F64b_ok {f0 : Option Addr} {dir0 : ByteArray} {name0 : ByteArray} {h : Heap} {Q : Value → Heap → Prop} (H : F64b f0 dir0 name0 h Q) : CallsH Tryz.prog 64 [.pointer f0, .string dir0, .string name0] h Q :=
  callsH_of (ann := fun _ => annNil) (tys := fun _ => []) (pl := fun _ => none) Tryz.func64 (by kernel_rfl) (by have e := F64b_eq; exact (congrFun (congrFun (congrFun (congrFun (congrFun (e) f0) dir0) name0) h) Q).symm ▸ H)

/-- (*headgate/headgateref06.FS).Append -/
def F65b (f0 : Option Addr) (dir0 : ByteArray) (name0 : ByteArray) (b0 : ByteArray) (h : Heap) (Q : Value → Heap → Prop) : Prop :=
  CallsH Tryz.prog 128 [.pointer f0, .string dir0, .string name0] h fun r0 h_0 =>
  ∃ (x0 : Int), ∃ (x1 : Int), ∃ (x2 : Int), r0 = .tuple #[.int .i64 x0, .int .i64 x1, .int .i64 x2] ∧
  (bif (x2 : Int) != 0 then
    Q (.int .i64 x2) h_0
  else
    NN' f0 fun a0 =>
    Ld h_0 (a0.add 4) fun v0 => DSl v0 fun x3a x3l x3c =>
    IdxA x3a x3l x1 2 fun a1 =>
    Ld h_0 (a1.add 0) fun v1 => DS v1 fun x4 =>
    (bif decide (((IntKind.wrap .i64 (((x4 : ByteArray).size : Int) + ((b0 : ByteArray).size : Int))) : Int) > 16777216) then
      Q (.int .i64 67) h_0
    else
      ∃ r2, (CallsH Tryz.prog 85 [.pointer f0] h_0 fun r1 h_1 =>
      r1 = r2 ∧ h_1 = h_0) ∧
      DI .i64 r2 fun x5 =>
      NN' f0 fun a2 =>
      Ld h_0 (a2.add 0) fun v2 => DI .i64 v2 fun x6 =>
      (bif decide (((IntKind.wrap .i64 (x5 + ((b0 : ByteArray).size : Int))) : Int) > x6) then
        Q (.int .i64 64) h_0
      else
        CallsH Tryz.prog 131 [.pointer f0] h_0 fun r3 h_2 =>
        DI .i64 r3 fun e0 =>
        (bif (e0 : Int) == 0 then
          NN' f0 fun a3 =>
          Ld h_2 (a3.add 4) fun v3 => DSl v3 fun x7a x7l x7c =>
          NN' f0 fun a4 =>
          Ld h_2 (a4.add 4) fun v4 => DSl v4 fun x8a x8l x8c =>
          IdxA x8a x8l x1 2 fun a5 =>
          Ld h_2 (a5.add 0) fun v5 => DS v5 fun x9 =>
          (x9 : ByteArray).size + (b0 : ByteArray).size ≤ 9223372036854775807 ∧
          IdxA x7a x7l x1 2 fun a6 =>
          StC h_2 ((a6.add 0).add 0) (.string (x9 ++ b0)) fun h_4 =>
          Q (.int .i64 e0) h_4
        else
          Q (.int .i64 e0) h_2))))
theorem F65b_eq : (fun (f0 : Option Addr) (dir0 : ByteArray) (name0 : ByteArray) (b0 : ByteArray) (h : Heap) (Q : Value → Heap → Prop) => fnPT Tryz.prog Tryz.f65 (fun _ => annNil) (fun _ => []) (fun i => bif Nat.beq i 10 then some ⟨[0, 1, 3, 7, 0, 0, 32, 96, 224, 0, 992, 2016, 4064, 0, 16352, 32767, 65535, 131071], 131072⟩ else none) [.pointer f0, .string dir0, .string name0, .string b0] h Q) = F65b := by kernel_rfl
theorem F65b_ok {f0 : Option Addr} {dir0 : ByteArray} {name0 : ByteArray} {b0 : ByteArray} {h : Heap} {Q : Value → Heap → Prop} (H : F65b f0 dir0 name0 b0 h Q) : CallsH Tryz.prog 65 [.pointer f0, .string dir0, .string name0, .string b0] h Q :=
  callsH_of (ann := fun _ => annNil) (tys := fun _ => []) (pl := fun i => bif Nat.beq i 10 then some ⟨[0, 1, 3, 7, 0, 0, 32, 96, 224, 0, 992, 2016, 4064, 0, 16352, 32767, 65535, 131071], 131072⟩ else none) Tryz.func65 (by kernel_rfl) (by have e := F65b_eq; exact (congrFun (congrFun (congrFun (congrFun (congrFun (congrFun (e) f0) dir0) name0) b0) h) Q).symm ▸ H)

/-- (*headgate/headgateref06.FS).Sync -/
def F66b (f0 : Option Addr) (dir0 : ByteArray) (name0 : ByteArray) (h : Heap) (Q : Value → Heap → Prop) : Prop :=
  CallsH Tryz.prog 128 [.pointer f0, .string dir0, .string name0] h fun r0 h_0 =>
  ∃ (x0 : Int), ∃ (x1 : Int), ∃ (x2 : Int), r0 = .tuple #[.int .i64 x0, .int .i64 x1, .int .i64 x2] ∧
  (bif (x2 : Int) != 0 then
    Q (.int .i64 x2) h_0
  else
    CallsH Tryz.prog 131 [.pointer f0] h_0 fun r1 h_1 =>
    DI .i64 r1 fun e0 =>
    (bif (e0 : Int) == 0 then
      NN' f0 fun a0 =>
      Ld h_1 (a0.add 4) fun v0 => DSl v0 fun x3a x3l x3c =>
      NN' f0 fun a1 =>
      Ld h_1 (a1.add 4) fun v1 => DSl v1 fun x4a x4l x4c =>
      IdxA x4a x4l x1 2 fun a2 =>
      Ld h_1 (a2.add 0) fun v2 => DS v2 fun x5 =>
      IdxA x3a x3l x1 2 fun a3 =>
      StC h_1 ((a3.add 1).add 0) (.int .i64 ((x5 : ByteArray).size : Int)) fun h_3 =>
      Q (.int .i64 e0) h_3
    else
      Q (.int .i64 e0) h_1))
theorem F66b_eq : (fun (f0 : Option Addr) (dir0 : ByteArray) (name0 : ByteArray) (h : Heap) (Q : Value → Heap → Prop) => fnPT Tryz.prog Tryz.f66 (fun _ => annNil) (fun _ => []) (fun i => bif Nat.beq i 6 then some ⟨[0, 1, 3, 7, 0, 0, 32, 96, 224, 0, 992, 2016, 4064, 8160, 16383, 32767, 65535], 65536⟩ else none) [.pointer f0, .string dir0, .string name0] h Q) = F66b := by kernel_rfl
theorem F66b_ok {f0 : Option Addr} {dir0 : ByteArray} {name0 : ByteArray} {h : Heap} {Q : Value → Heap → Prop} (H : F66b f0 dir0 name0 h Q) : CallsH Tryz.prog 66 [.pointer f0, .string dir0, .string name0] h Q :=
  callsH_of (ann := fun _ => annNil) (tys := fun _ => []) (pl := fun i => bif Nat.beq i 6 then some ⟨[0, 1, 3, 7, 0, 0, 32, 96, 224, 0, 992, 2016, 4064, 8160, 16383, 32767, 65535], 65536⟩ else none) Tryz.func66 (by kernel_rfl) (by have e := F66b_eq; exact (congrFun (congrFun (congrFun (congrFun (congrFun (e) f0) dir0) name0) h) Q).symm ▸ H)

/-- (*headgate/headgateref06.FS).SyncDir -/
def F68b (f0 : Option Addr) (dir0 : ByteArray) (h : Heap) (Q : Value → Heap → Prop) : Prop :=
  CallsH Tryz.prog 127 [.pointer f0, .string dir0, .string dir0, .string dir0] h fun r0 h_0 =>
  ∃ (x0 : Int), ∃ (x1 : Int), r0 = .tuple #[.int .i64 x0, .int .i64 x1] ∧
  (bif (x1 : Int) != 0 then
    Q (.int .i64 x1) h_0
  else
    CallsH Tryz.prog 131 [.pointer f0] h_0 fun r1 h_1 =>
    DI .i64 r1 fun e0 =>
    (bif (e0 : Int) == 0 then
      NN' f0 fun a0 =>
      Ld h_1 (a0.add 5) fun v0 => DSl v0 fun x2a x2l x2c =>
      NN' f0 fun a1 =>
      Ld h_1 (a1.add 5) fun v1 => DSl v1 fun x3a x3l x3c =>
      IdxA x3a x3l x0 4 fun a2 =>
      Ld h_1 (a2.add 1) fun v2 => DSl v2 fun x4a x4l x4c =>
      IdxA x2a x2l x0 4 fun a3 =>
      StC h_1 ((a3.add 2).add 0) (.slice x4a x4l x4c) fun h_3 =>
      NN' f0 fun a4 =>
      Ld h_3 (a4.add 5) fun v3 => DSl v3 fun x5a x5l x5c =>
      IdxA x5a x5l x0 4 fun a5 =>
      StC h_3 ((a5.add 3).add 0) (.slice none 0 0) fun h_5 =>
      Q (.int .i64 e0) h_5
    else
      Q (.int .i64 e0) h_1))
theorem F68b_eq : (fun (f0 : Option Addr) (dir0 : ByteArray) (h : Heap) (Q : Value → Heap → Prop) => fnPT Tryz.prog Tryz.f68 (fun _ => annNil) (fun _ => []) (fun i => bif Nat.beq i 6 then some ⟨[0, 1, 3, 7, 0, 0, 32, 96, 224, 0, 992, 2016, 4064, 8191, 16383, 32767], 32768⟩ else none) [.pointer f0, .string dir0] h Q) = F68b := by kernel_rfl
theorem F68b_ok {f0 : Option Addr} {dir0 : ByteArray} {h : Heap} {Q : Value → Heap → Prop} (H : F68b f0 dir0 h Q) : CallsH Tryz.prog 68 [.pointer f0, .string dir0] h Q :=
  callsH_of (ann := fun _ => annNil) (tys := fun _ => []) (pl := fun i => bif Nat.beq i 6 then some ⟨[0, 1, 3, 7, 0, 0, 32, 96, 224, 0, 992, 2016, 4064, 8191, 16383, 32767], 32768⟩ else none) Tryz.func68 (by kernel_rfl) (by have e := F68b_eq; exact (congrFun (congrFun (congrFun (congrFun (e) f0) dir0) h) Q).symm ▸ H)

/-- (*headgate/headgateref06.FS).Rename -/
def F67b (f0 : Option Addr) (dir0 : ByteArray) (from_0 : ByteArray) (to0 : ByteArray) (h : Heap) (Q : Value → Heap → Prop) : Prop :=
  CallsH Tryz.prog 127 [.pointer f0, .string dir0, .string from_0, .string to0] h fun r0 h_0 =>
  ∃ (x0 : Int), ∃ (x1 : Int), r0 = .tuple #[.int .i64 x0, .int .i64 x1] ∧
  (bif (x1 : Int) != 0 then
    Q (.int .i64 x1) h_0
  else
    NN' f0 fun a0 =>
    Ld h_0 (a0.add 5) fun v0 => DSl v0 fun x2a x2l x2c =>
    IdxA x2a x2l x0 4 fun a1 =>
    Ld h_0 (a1.add 1) fun v1 => DSl v1 fun x3a x3l x3c =>
    CallsH Tryz.prog 130 [.slice x3a x3l x3c, .string from_0] h_0 fun r1 h_1 =>
    DI .i64 r1 fun x4 =>
    (bif decide ((x4 : Int) < 0) then
      Q (.int .i64 62) h_1
    else
      CallsH Tryz.prog 129 [.pointer f0, .int .i64 x0, .agg #[.int .i64 2, .string from_0, .string to0, .int .i64 0]] h_1 fun r2 h_2 =>
      DI .i64 r2 fun x5 =>
      Q (.int .i64 x5) h_2))
theorem F67b_eq : (fun (f0 : Option Addr) (dir0 : ByteArray) (from_0 : ByteArray) (to0 : ByteArray) (h : Heap) (Q : Value → Heap → Prop) => fnPT Tryz.prog Tryz.f67 (fun _ => annNil) (fun _ => []) (fun _ => none) [.pointer f0, .string dir0, .string from_0, .string to0] h Q) = F67b := by kernel_rfl
theorem F67b_ok {f0 : Option Addr} {dir0 : ByteArray} {from_0 : ByteArray} {to0 : ByteArray} {h : Heap} {Q : Value → Heap → Prop} (H : F67b f0 dir0 from_0 to0 h Q) : CallsH Tryz.prog 67 [.pointer f0, .string dir0, .string from_0, .string to0] h Q :=
  callsH_of (ann := fun _ => annNil) (tys := fun _ => []) (pl := fun _ => none) Tryz.func67 (by kernel_rfl) (by have e := F67b_eq; exact (congrFun (congrFun (congrFun (congrFun (congrFun (congrFun (e) f0) dir0) from_0) to0) h) Q).symm ▸ H)

/-- (*headgate/headgateref06.FS).Remove -/
def F63b (f0 : Option Addr) (dir0 : ByteArray) (name0 : ByteArray) (h : Heap) (Q : Value → Heap → Prop) : Prop :=
  CallsH Tryz.prog 128 [.pointer f0, .string dir0, .string name0] h fun r0 h_0 =>
  ∃ (x0 : Int), ∃ (x1 : Int), ∃ (x2 : Int), r0 = .tuple #[.int .i64 x0, .int .i64 x1, .int .i64 x2] ∧
  (bif (x2 : Int) != 0 then
    Q (.int .i64 x2) h_0
  else
    CallsH Tryz.prog 129 [.pointer f0, .int .i64 x0, .agg #[.int .i64 3, .string name0, .string .empty, .int .i64 0]] h_0 fun r1 h_1 =>
    DI .i64 r1 fun x3 =>
    Q (.int .i64 x3) h_1)
theorem F63b_eq : (fun (f0 : Option Addr) (dir0 : ByteArray) (name0 : ByteArray) (h : Heap) (Q : Value → Heap → Prop) => fnPT Tryz.prog Tryz.f63 (fun _ => annNil) (fun _ => []) (fun _ => none) [.pointer f0, .string dir0, .string name0] h Q) = F63b := by kernel_rfl
theorem F63b_ok {f0 : Option Addr} {dir0 : ByteArray} {name0 : ByteArray} {h : Heap} {Q : Value → Heap → Prop} (H : F63b f0 dir0 name0 h Q) : CallsH Tryz.prog 63 [.pointer f0, .string dir0, .string name0] h Q :=
  callsH_of (ann := fun _ => annNil) (tys := fun _ => []) (pl := fun _ => none) Tryz.func63 (by kernel_rfl) (by have e := F63b_eq; exact (congrFun (congrFun (congrFun (congrFun (congrFun (e) f0) dir0) name0) h) Q).symm ▸ H)

/-- (*headgate/headgateref06.FS).Roomed -/
def F79b (f0 : Option Addr) (n0 : Int) (h : Heap) (Q : Value → Heap → Prop) : Prop :=
  (bif decide ((n0 : Int) < 0) then
    Q (.int .i64 2) h
  else
    (bif decide ((n0 : Int) > 1073741824) then
      Q (.int .i64 2) h
    else
      NN' f0 fun a0 =>
      StC h ((a0.add 0).add 0) (.int .i64 n0) fun h_1 =>
      Q (.int .i64 0) h_1))
theorem F79b_eq : (fun (f0 : Option Addr) (n0 : Int) (h : Heap) (Q : Value → Heap → Prop) => fnPT Tryz.prog Tryz.f79 (fun _ => annNil) (fun _ => []) (fun _ => none) [.pointer f0, .int .i64 n0] h Q) = F79b := by kernel_rfl
theorem F79b_ok {f0 : Option Addr} {n0 : Int} {h : Heap} {Q : Value → Heap → Prop} (H : F79b f0 n0 h Q) : CallsH Tryz.prog 79 [.pointer f0, .int .i64 n0] h Q :=
  callsH_of (ann := fun _ => annNil) (tys := fun _ => []) (pl := fun _ => none) Tryz.func79 (by kernel_rfl) (by have e := F79b_eq; exact (congrFun (congrFun (congrFun (congrFun (e) f0) n0) h) Q).symm ▸ H)

/-- (*headgate/headgateref06.FS).Fused -/
def F80b (f0 : Option Addr) (n0 : Int) (h : Heap) (Q : Value → Heap → Prop) : Prop :=
  (bif decide ((n0 : Int) < 0) then
    Q (.int .i64 2) h
  else
    NN' f0 fun a0 =>
    StC h ((a0.add 2).add 0) (.int .i64 n0) fun h_1 =>
    Q (.int .i64 0) h_1)
theorem F80b_eq : (fun (f0 : Option Addr) (n0 : Int) (h : Heap) (Q : Value → Heap → Prop) => fnPT Tryz.prog Tryz.f80 (fun _ => annNil) (fun _ => []) (fun _ => none) [.pointer f0, .int .i64 n0] h Q) = F80b := by kernel_rfl
theorem F80b_ok {f0 : Option Addr} {n0 : Int} {h : Heap} {Q : Value → Heap → Prop} (H : F80b f0 n0 h Q) : CallsH Tryz.prog 80 [.pointer f0, .int .i64 n0] h Q :=
  callsH_of (ann := fun _ => annNil) (tys := fun _ => []) (pl := fun _ => none) Tryz.func80 (by kernel_rfl) (by have e := F80b_eq; exact (congrFun (congrFun (congrFun (congrFun (e) f0) n0) h) Q).symm ▸ H)

/-- (*headgate/headgateref06.FS).Crash -/
def F81b (f0 : Option Addr) (picks0a : Option Addr) (picks0l : Nat) (picks0c : Nat) (h : Heap) (Q : Value → Heap → Prop) : Prop :=
  LoopH (fun again0 (s0 : Sl × Int) h_0 =>
    NN' f0 fun a0 =>
    Ld h_0 (a0.add 5) fun v0 => DSl v0 fun x0a x0l x0c =>
    (bif decide ((s0.2 : Int) < (x0l : Int)) then
      NN' f0 fun a1 =>
      Ld h_0 (a1.add 5) fun v1 => DSl v1 fun x1a x1l x1c =>
      IdxA x1a x1l s0.2 4 fun a2 =>
      Ld h_0 (a2.add 3) fun v2 => DSl v2 fun x2a x2l x2c =>
      CallsH Tryz.prog 137 [.slice s0.1.a s0.1.l s0.1.c, .int .i64 (x2l : Int)] h_0 fun r0 h_1 =>
      ∃ (x3 : Int), ∃ (x4a : Option Addr), ∃ (x4l : Nat), ∃ (x4c : Nat), r0 = .tuple #[.int .i64 x3, .slice x4a x4l x4c] ∧
      NN' f0 fun a3 =>
      Ld h_1 (a3.add 5) fun v3 => DSl v3 fun x5a x5l x5c =>
      IdxA x5a x5l s0.2 4 fun a4 =>
      Ld h_1 (a4.add 2) fun v4 => DSl v4 fun now0a now0l now0c =>
      LoopH (fun again1 (s1 : Sl × Int) h_2 =>
        (bif decide ((s1.2 : Int) < x3) then
          NN' f0 fun a5 =>
          Ld h_2 (a5.add 5) fun v5 => DSl v5 fun x6a x6l x6c =>
          IdxA x6a x6l s0.2 4 fun a6 =>
          Ld h_2 (a6.add 3) fun v6 => DSl v6 fun x7a x7l x7c =>
          IdxA x7a x7l s1.2 4 fun a7 =>
          Ld h_2 (a7.add 0) fun c0 =>
          Ld h_2 (a7.add 1) fun c1 =>
          Ld h_2 (a7.add 2) fun c2 =>
          Ld h_2 (a7.add 3) fun c3 =>
          ∃ (x8 : Int), ∃ (x9 : ByteArray), ∃ (x10 : ByteArray), ∃ (x11 : Int), (Value.agg #[c0, c1, c2, c3]) = .agg #[.int .i64 x8, .string x9, .string x10, .int .i64 x11] ∧
          CallsH Tryz.prog 138 [.slice s1.1.a s1.1.l s1.1.c, .agg #[.int .i64 x8, .string x9, .string x10, .int .i64 x11]] h_2 fun r1 h_3 =>
          DSl r1 fun now1a now1l now1c =>
          again1 (⟨now1a, now1l, now1c⟩, IntKind.wrap .i64 (s1.2 + 1)) h_3
        else
          NN' f0 fun a8 =>
          Ld h_2 (a8.add 5) fun v7 => DSl v7 fun x12a x12l x12c =>
          NN' f0 fun a9 =>
          Ld h_2 (a9.add 5) fun v8 => DSl v8 fun x13a x13l x13c =>
          IdxA x13a x13l s0.2 4 fun a10 =>
          Ld h_2 (a10.add 0) fun v9 => DS v9 fun x14 =>
          IdxA x12a x12l s0.2 4 fun a11 =>
          StC h_2 (a11.add 0) (.string x14) fun h_5 =>
          StC h_5 (a11.add 1) (.slice s1.1.a s1.1.l s1.1.c) fun h_6 =>
          StC h_6 (a11.add 2) (.slice s1.1.a s1.1.l s1.1.c) fun h_7 =>
          StC h_7 (a11.add 3) (.slice none 0 0) fun h_8 =>
          again0 (⟨x4a, x4l, x4c⟩, IntKind.wrap .i64 (s0.2 + 1)) h_8)) (⟨now0a, now0l, now0c⟩, 0) h_1
    else
      LoopH (fun again2 (s2 : Sl × Int) h_9 =>
        NN' f0 fun a12 =>
        Ld h_9 (a12.add 5) fun v10 => DSl v10 fun x15a x15l x15c =>
        (bif decide ((s2.2 : Int) < (x15l : Int)) then
          LoopH (fun again3 (s3 : Sl × Int) h_10 =>
            NN' f0 fun a13 =>
            Ld h_10 (a13.add 5) fun v11 => DSl v11 fun x16a x16l x16c =>
            IdxA x16a x16l s2.2 4 fun a14 =>
            Ld h_10 (a14.add 1) fun v12 => DSl v12 fun x17a x17l x17c =>
            (bif decide ((s3.2 : Int) < (x17l : Int)) then
              NN' f0 fun a15 =>
              Ld h_10 (a15.add 5) fun v13 => DSl v13 fun x18a x18l x18c =>
              IdxA x18a x18l s2.2 4 fun a16 =>
              Ld h_10 (a16.add 1) fun v14 => DSl v14 fun x19a x19l x19c =>
              IdxA x19a x19l s3.2 2 fun a17 =>
              Ld h_10 (a17.add 1) fun v15 => DI .i64 v15 fun x20 =>
              NN' f0 fun a18 =>
              Ld h_10 (a18.add 4) fun v16 => DSl v16 fun x21a x21l x21c =>
              IdxA x21a x21l x20 2 fun a19 =>
              Ld h_10 (a19.add 0) fun v17 => DS v17 fun x22 =>
              NN' f0 fun a20 =>
              Ld h_10 (a20.add 4) fun v18 => DSl v18 fun x23a x23l x23c =>
              IdxA x23a x23l x20 2 fun a21 =>
              Ld h_10 (a21.add 1) fun v19 => DI .i64 v19 fun x24 =>
              ∃ r4, (CallsH Tryz.prog 137 [.slice s3.1.a s3.1.l s3.1.c, .int .i64 (IntKind.wrap .i64 (((x22 : ByteArray).size : Int) - x24))] h_10 fun r3 h_11 =>
              r3 = r4 ∧ h_11 = h_10) ∧
              ∃ (x25 : Int), ∃ (x26a : Option Addr), ∃ (x26l : Nat), ∃ (x26c : Nat), r4 = .tuple #[.int .i64 x25, .slice x26a x26l x26c] ∧
              NN' f0 fun a22 =>
              Ld h_10 (a22.add 4) fun v20 => DSl v20 fun x27a x27l x27c =>
              NN' f0 fun a23 =>
              Ld h_10 (a23.add 4) fun v21 => DSl v21 fun x28a x28l x28c =>
              IdxA x28a x28l x20 2 fun a24 =>
              Ld h_10 (a24.add 0) fun v22 => DS v22 fun x29 =>
              NN' f0 fun a25 =>
              Ld h_10 (a25.add 4) fun v23 => DSl v23 fun x30a x30l x30c =>
              IdxA x30a x30l x20 2 fun a26 =>
              Ld h_10 (a26.add 1) fun v24 => DI .i64 v24 fun x31 =>
              SlS x29 0 (IntKind.wrap .i64 (x31 + x25)) fun s4 =>
              IdxA x27a x27l x20 2 fun a27 =>
              StC h_10 ((a27.add 0).add 0) (.string s4) fun h_13 =>
              NN' f0 fun a28 =>
              Ld h_13 (a28.add 4) fun v25 => DSl v25 fun x32a x32l x32c =>
              NN' f0 fun a29 =>
              Ld h_13 (a29.add 4) fun v26 => DSl v26 fun x33a x33l x33c =>
              IdxA x33a x33l x20 2 fun a30 =>
              Ld h_13 (a30.add 0) fun v27 => DS v27 fun x34 =>
              IdxA x32a x32l x20 2 fun a31 =>
              StC h_13 ((a31.add 1).add 0) (.int .i64 ((x34 : ByteArray).size : Int)) fun h_15 =>
              again3 (⟨x26a, x26l, x26c⟩, IntKind.wrap .i64 (s3.2 + 1)) h_15
            else
              again2 (⟨s3.1.a, s3.1.l, s3.1.c⟩, IntKind.wrap .i64 (s2.2 + 1)) h_10)) (⟨s2.1.a, s2.1.l, s2.1.c⟩, 0) h_9
        else
          NN' f0 fun a32 =>
          StC h_9 ((a32.add 3).add 0) (.bool false) fun h_17 =>
          NN' f0 fun a33 =>
          StC h_17 ((a33.add 2).add 0) (.int .i64 (-1)) fun h_19 =>
          Q (.tuple #[]) h_19)) (⟨s0.1.a, s0.1.l, s0.1.c⟩, 0) h_0)) (⟨picks0a, picks0l, picks0c⟩, 0) h
theorem F81b_eq : (fun (f0 : Option Addr) (picks0a : Option Addr) (picks0l : Nat) (picks0c : Nat) (h : Heap) (Q : Value → Heap → Prop) => fnPT Tryz.prog Tryz.f81 (fun i => bif Nat.beq i 0 then annCons 4 (codSl) (annOne 5 (codI .i64)) else bif Nat.beq i 2 then annCons 7 (codSl) (annOne 8 (codI .i64)) else bif Nat.beq i 4 then annCons 4 (codSl) (annOne 9 (codI .i64)) else bif Nat.beq i 6 then annCons 4 (codSl) (annOne 10 (codI .i64)) else annNil) (fun _ => []) (fun i => bif Nat.beq i 11 then some ⟨[0, 1, 3, 7, 0, 0, 32, 96, 224, 0, 992, 2016, 4064, 0, 0, 32736, 65535, 131071], 131072⟩ else bif Nat.beq i 21 then some ⟨[0, 1, 3, 7, 0, 0, 32, 96, 224, 0, 992, 2016, 4064, 0, 8192, 24576, 57344, 0, 253952, 516096, 1040384, 0, 4186112, 8388576, 16777215, 33554431, 67108863], 67108864⟩ else bif Nat.beq i 22 then some ⟨[0, 1, 3, 7, 0, 0, 32, 96, 224, 0, 992, 2016, 4064, 8160, 16383, 32767, 65535], 65536⟩ else none) [.pointer f0, .slice picks0a picks0l picks0c] h Q) = F81b := by kernel_rfl
theorem F81b_ok {f0 : Option Addr} {picks0a : Option Addr} {picks0l : Nat} {picks0c : Nat} {h : Heap} {Q : Value → Heap → Prop} (H : F81b f0 picks0a picks0l picks0c h Q) : CallsH Tryz.prog 81 [.pointer f0, .slice picks0a picks0l picks0c] h Q :=
  callsH_of (ann := fun i => bif Nat.beq i 0 then annCons 4 (codSl) (annOne 5 (codI .i64)) else bif Nat.beq i 2 then annCons 7 (codSl) (annOne 8 (codI .i64)) else bif Nat.beq i 4 then annCons 4 (codSl) (annOne 9 (codI .i64)) else bif Nat.beq i 6 then annCons 4 (codSl) (annOne 10 (codI .i64)) else annNil) (tys := fun _ => []) (pl := fun i => bif Nat.beq i 11 then some ⟨[0, 1, 3, 7, 0, 0, 32, 96, 224, 0, 992, 2016, 4064, 0, 0, 32736, 65535, 131071], 131072⟩ else bif Nat.beq i 21 then some ⟨[0, 1, 3, 7, 0, 0, 32, 96, 224, 0, 992, 2016, 4064, 0, 8192, 24576, 57344, 0, 253952, 516096, 1040384, 0, 4186112, 8388576, 16777215, 33554431, 67108863], 67108864⟩ else bif Nat.beq i 22 then some ⟨[0, 1, 3, 7, 0, 0, 32, 96, 224, 0, 992, 2016, 4064, 8160, 16383, 32767, 65535], 65536⟩ else none) Tryz.func81 (by kernel_rfl) (by have e := F81b_eq; exact (congrFun (congrFun (congrFun (congrFun (congrFun (congrFun (e) f0) picks0a) picks0l) picks0c) h) Q).symm ▸ H)

/-- (*headgate/headgateref06.FS).Spoil -/
def F82b (f0 : Option Addr) (dir0 : ByteArray) (name0 : ByteArray) (at_0 : Int) (turn0 : Int) (h : Heap) (Q : Value → Heap → Prop) : Prop :=
  CallsH Tryz.prog 139 [.pointer f0, .string dir0, .string name0, .string name0] h fun r0 h_0 =>
  ∃ (x0 : Int), ∃ (x1 : Int), r0 = .tuple #[.int .i64 x0, .int .i64 x1] ∧
  (bif (x1 : Int) != 0 then
    Q (.int .i64 x1) h_0
  else
    NN' f0 fun a0 =>
    Ld h_0 (a0.add 5) fun v0 => DSl v0 fun x2a x2l x2c =>
    IdxA x2a x2l x0 4 fun a1 =>
    Ld h_0 (a1.add 1) fun v1 => DSl v1 fun x3a x3l x3c =>
    CallsH Tryz.prog 130 [.slice x3a x3l x3c, .string name0] h_0 fun r1 h_1 =>
    DI .i64 r1 fun x4 =>
    (bif decide ((x4 : Int) < 0) then
      Q (.int .i64 62) h_1
    else
      (bif decide ((at_0 : Int) < 0) then
        Q (.int .i64 2) h_1
      else
        NN' f0 fun a2 =>
        Ld h_1 (a2.add 4) fun v2 => DSl v2 fun x5a x5l x5c =>
        IdxA x5a x5l x4 2 fun a3 =>
        Ld h_1 (a3.add 0) fun v3 => DS v3 fun x6 =>
        (bif decide ((at_0 : Int) ≥ ((x6 : ByteArray).size : Int)) then
          Q (.int .i64 2) h_1
        else
          NN' f0 fun a4 =>
          Ld h_1 (a4.add 4) fun v4 => DSl v4 fun x7a x7l x7c =>
          IdxA x7a x7l x4 2 fun a5 =>
          Ld h_1 (a5.add 0) fun v5 => DS v5 fun x8 =>
          RunH Tryz.prog (Go.convert 9 40 (.string x8)) h_1 fun r2 h_2 =>
          DSl r2 fun b0a b0l b0c =>
          IdxA b0a b0l at_0 1 fun a6 =>
          Ld h_2 a6 fun v6 => DI .u8 v6 fun x9 =>
          IdxA b0a b0l at_0 1 fun a7 =>
          StC h_2 (a7.add 0) (.int .u8 (bitsI .xor .u8 x9 turn0)) fun h_4 =>
          NN' f0 fun a8 =>
          Ld h_4 (a8.add 4) fun v7 => DSl v7 fun x10a x10l x10c =>
          ∃ bs0 : ByteArray, BytesIn h_4 b0a b0l bs0 ∧
          IdxA x10a x10l x4 2 fun a9 =>
          StC h_4 ((a9.add 0).add 0) (.string bs0) fun h_6 =>
          Q (.int .i64 0) h_6))))
theorem F82b_eq : (fun (f0 : Option Addr) (dir0 : ByteArray) (name0 : ByteArray) (at_0 : Int) (turn0 : Int) (h : Heap) (Q : Value → Heap → Prop) => fnPT Tryz.prog Tryz.f82 (fun _ => annNil) (fun _ => []) (fun i => bif Nat.beq i 11 then some ⟨[0, 1, 3, 7, 0, 0, 32, 127, 255, 511], 512⟩ else none) [.pointer f0, .string dir0, .string name0, .int .i64 at_0, .int .u8 turn0] h Q) = F82b := by kernel_rfl
theorem F82b_ok {f0 : Option Addr} {dir0 : ByteArray} {name0 : ByteArray} {at_0 : Int} {turn0 : Int} {h : Heap} {Q : Value → Heap → Prop} (H : F82b f0 dir0 name0 at_0 turn0 h Q) : CallsH Tryz.prog 82 [.pointer f0, .string dir0, .string name0, .int .i64 at_0, .int .u8 turn0] h Q :=
  callsH_of (ann := fun _ => annNil) (tys := fun _ => []) (pl := fun i => bif Nat.beq i 11 then some ⟨[0, 1, 3, 7, 0, 0, 32, 127, 255, 511], 512⟩ else none) Tryz.func82 (by kernel_rfl) (by have e := F82b_eq; exact (congrFun (congrFun (congrFun (congrFun (congrFun (congrFun (congrFun (e) f0) dir0) name0) at_0) turn0) h) Q).symm ▸ H)

/-- (*headgate/headgateref06.FS).Plant -/
def F83b (f0 : Option Addr) (dir0 : ByteArray) (name0 : ByteArray) (b0 : ByteArray) (h : Heap) (Q : Value → Heap → Prop) : Prop :=
  CallsH Tryz.prog 139 [.pointer f0, .string dir0, .string name0, .string name0] h fun r0 h_0 =>
  ∃ (x0 : Int), ∃ (x1 : Int), r0 = .tuple #[.int .i64 x0, .int .i64 x1] ∧
  (bif (x1 : Int) != 0 then
    Q (.int .i64 x1) h_0
  else
    (bif decide ((((b0 : ByteArray).size : Int) : Int) > 16777216) then
      Q (.int .i64 67) h_0
    else
      NN' f0 fun a0 =>
      Ld h_0 (a0.add 5) fun v0 => DSl v0 fun x2a x2l x2c =>
      IdxA x2a x2l x0 4 fun a1 =>
      Ld h_0 (a1.add 1) fun v1 => DSl v1 fun x3a x3l x3c =>
      CallsH Tryz.prog 130 [.slice x3a x3l x3c, .string name0] h_0 fun r1 h_1 =>
      DI .i64 r1 fun x4 =>
      (bif decide ((x4 : Int) < 0) then
        NN' f0 fun a2 =>
        Ld h_1 (a2.add 5) fun v2 => DSl v2 fun x5a x5l x5c =>
        IdxA x5a x5l x0 4 fun a3 =>
        Ld h_1 (a3.add 1) fun v3 => DSl v3 fun x6a x6l x6c =>
        (bif decide (((x6l : Int) : Int) ≥ 4096) then
          Q (.int .i64 66) h_1
        else
          NN' f0 fun a4 =>
          Ld h_1 (a4.add 4) fun v4 => DSl v4 fun x7a x7l x7c =>
          Al h_1 (.cells #[.string b0, .int .i64 ((b0 : ByteArray).size : Int)] 202) fun b1 h_2 =>
          RunH Tryz.prog (Builtin.append_ #[94, 94] 94 #[.slice x7a x7l x7c, .slice (some (Addr.mk b1 0 none)) 1 1]) h_2 fun r3 h_3 =>
          DSl r3 fun x8a x8l x8c =>
          NN' f0 fun a5 =>
          StC h_3 ((a5.add 4).add 0) (.slice x8a x8l x8c) fun h_5 =>
          NN' f0 fun a6 =>
          Ld h_5 (a6.add 5) fun v5 => DSl v5 fun x9a x9l x9c =>
          NN' f0 fun a7 =>
          Ld h_5 (a7.add 5) fun v6 => DSl v6 fun x10a x10l x10c =>
          IdxA x10a x10l x0 4 fun a8 =>
          Ld h_5 (a8.add 1) fun v7 => DSl v7 fun x11a x11l x11c =>
          NN' f0 fun a9 =>
          Ld h_5 (a9.add 4) fun v8 => DSl v8 fun x12a x12l x12c =>
          CallsH Tryz.prog 140 [.slice x11a x11l x11c, .string name0, .int .i64 (IntKind.wrap .i64 ((x12l : Int) - 1))] h_5 fun r5 h_6 =>
          DSl r5 fun x13a x13l x13c =>
          (SameV (some (.pointer f0)) (.pointer f0)) ∧
          (NN' f0 fun a10 =>
          SameV (some (.pointer (some a6))) (.pointer (some a10))) ∧
          (SameV (some (.pointer (some (a6.add 5)))) (.pointer (some (a6.add 5)))) ∧
          (Ld h_6 (a6.add 5) fun v9 => DSl v9 fun x14a x14l x14c =>
          SameV (some (.slice x9a x9l x9c)) (.slice x14a x14l x14c)) ∧
          (SameV (some (.int .i64 x0)) (.int .i64 x0)) ∧
          IdxA x9a x9l x0 4 fun a11 =>
          StC h_6 ((a11.add 1).add 0) (.slice x13a x13l x13c) fun h_8 =>
          NN' f0 fun a12 =>
          Ld h_8 (a12.add 5) fun v10 => DSl v10 fun x15a x15l x15c =>
          NN' f0 fun a13 =>
          Ld h_8 (a13.add 5) fun v11 => DSl v11 fun x16a x16l x16c =>
          IdxA x16a x16l x0 4 fun a14 =>
          Ld h_8 (a14.add 1) fun v12 => DSl v12 fun x17a x17l x17c =>
          IdxA x15a x15l x0 4 fun a15 =>
          StC h_8 ((a15.add 2).add 0) (.slice x17a x17l x17c) fun h_10 =>
          NN' f0 fun a16 =>
          Ld h_10 (a16.add 5) fun v13 => DSl v13 fun x18a x18l x18c =>
          IdxA x18a x18l x0 4 fun a17 =>
          StC h_10 ((a17.add 3).add 0) (.slice none 0 0) fun h_12 =>
          Q (.int .i64 0) h_12)
      else
        NN' f0 fun a18 =>
        Ld h_1 (a18.add 4) fun v14 => DSl v14 fun x19a x19l x19c =>
        Al h_1 (.cells #[.string b0, .int .i64 ((b0 : ByteArray).size : Int)] 202) fun b2 h_13 =>
        RunH Tryz.prog (Builtin.append_ #[94, 94] 94 #[.slice x19a x19l x19c, .slice (some (Addr.mk b2 0 none)) 1 1]) h_13 fun r10 h_14 =>
        DSl r10 fun x20a x20l x20c =>
        NN' f0 fun a19 =>
        StC h_14 ((a19.add 4).add 0) (.slice x20a x20l x20c) fun h_16 =>
        NN' f0 fun a20 =>
        Ld h_16 (a20.add 5) fun v15 => DSl v15 fun x21a x21l x21c =>
        NN' f0 fun a21 =>
        Ld h_16 (a21.add 5) fun v16 => DSl v16 fun x22a x22l x22c =>
        IdxA x22a x22l x0 4 fun a22 =>
        Ld h_16 (a22.add 1) fun v17 => DSl v17 fun x23a x23l x23c =>
        NN' f0 fun a23 =>
        Ld h_16 (a23.add 4) fun v18 => DSl v18 fun x24a x24l x24c =>
        CallsH Tryz.prog 140 [.slice x23a x23l x23c, .string name0, .int .i64 (IntKind.wrap .i64 ((x24l : Int) - 1))] h_16 fun r12 h_17 =>
        DSl r12 fun x25a x25l x25c =>
        (SameV (some (.pointer f0)) (.pointer f0)) ∧
        (NN' f0 fun a24 =>
        SameV (some (.pointer (some a20))) (.pointer (some a24))) ∧
        (SameV (some (.pointer (some (a20.add 5)))) (.pointer (some (a20.add 5)))) ∧
        (Ld h_17 (a20.add 5) fun v19 => DSl v19 fun x26a x26l x26c =>
        SameV (some (.slice x21a x21l x21c)) (.slice x26a x26l x26c)) ∧
        (SameV (some (.int .i64 x0)) (.int .i64 x0)) ∧
        IdxA x21a x21l x0 4 fun a25 =>
        StC h_17 ((a25.add 1).add 0) (.slice x25a x25l x25c) fun h_19 =>
        NN' f0 fun a26 =>
        Ld h_19 (a26.add 5) fun v20 => DSl v20 fun x27a x27l x27c =>
        NN' f0 fun a27 =>
        Ld h_19 (a27.add 5) fun v21 => DSl v21 fun x28a x28l x28c =>
        IdxA x28a x28l x0 4 fun a28 =>
        Ld h_19 (a28.add 1) fun v22 => DSl v22 fun x29a x29l x29c =>
        IdxA x27a x27l x0 4 fun a29 =>
        StC h_19 ((a29.add 2).add 0) (.slice x29a x29l x29c) fun h_21 =>
        NN' f0 fun a30 =>
        Ld h_21 (a30.add 5) fun v23 => DSl v23 fun x30a x30l x30c =>
        IdxA x30a x30l x0 4 fun a31 =>
        StC h_21 ((a31.add 3).add 0) (.slice none 0 0) fun h_23 =>
        Q (.int .i64 0) h_23)))
theorem F83b_eq : (fun (f0 : Option Addr) (dir0 : ByteArray) (name0 : ByteArray) (b0 : ByteArray) (h : Heap) (Q : Value → Heap → Prop) => fnPT Tryz.prog Tryz.f83 (fun _ => annNil) (fun _ => []) (fun i => bif Nat.beq i 9 then some ⟨[0, 1, 3, 7, 0, 0, 32, 96, 224, 0, 992, 2016, 4064, 0, 0, 16384, 49152, 114688, 245760, 507904, 1048544, 2097151, 4194303, 8388607], 9437184⟩ else bif Nat.beq i 10 then some ⟨[0, 1, 3, 7, 0, 0, 32, 96, 224, 0, 992, 2016, 4064, 8191, 16383, 32767], 32768⟩ else none) [.pointer f0, .string dir0, .string name0, .string b0] h Q) = F83b := by kernel_rfl
theorem F83b_ok {f0 : Option Addr} {dir0 : ByteArray} {name0 : ByteArray} {b0 : ByteArray} {h : Heap} {Q : Value → Heap → Prop} (H : F83b f0 dir0 name0 b0 h Q) : CallsH Tryz.prog 83 [.pointer f0, .string dir0, .string name0, .string b0] h Q :=
  callsH_of (ann := fun _ => annNil) (tys := fun _ => []) (pl := fun i => bif Nat.beq i 9 then some ⟨[0, 1, 3, 7, 0, 0, 32, 96, 224, 0, 992, 2016, 4064, 0, 0, 16384, 49152, 114688, 245760, 507904, 1048544, 2097151, 4194303, 8388607], 9437184⟩ else bif Nat.beq i 10 then some ⟨[0, 1, 3, 7, 0, 0, 32, 96, 224, 0, 992, 2016, 4064, 8191, 16383, 32767], 32768⟩ else none) Tryz.func83 (by kernel_rfl) (by have e := F83b_eq; exact (congrFun (congrFun (congrFun (congrFun (congrFun (congrFun (e) f0) dir0) name0) b0) h) Q).symm ▸ H)

/-- (*headgate/headgateref06.FS).Used -/
def F85b (f0 : Option Addr) (h : Heap) (Q : Value → Heap → Prop) : Prop :=
  LoopH (fun again0 (s0 : Int × Int) h_0 =>
    NN' f0 fun a0 =>
    Ld h_0 (a0.add 5) fun v0 => DSl v0 fun x0a x0l x0c =>
    (bif decide ((s0.2 : Int) < (x0l : Int)) then
      LoopH (fun again1 (s1 : Int × Int) h_1 =>
        NN' f0 fun a1 =>
        Ld h_1 (a1.add 5) fun v1 => DSl v1 fun x1a x1l x1c =>
        IdxA x1a x1l s0.2 4 fun a2 =>
        Ld h_1 (a2.add 1) fun v2 => DSl v2 fun x2a x2l x2c =>
        (bif decide ((s1.2 : Int) < (x2l : Int)) then
          NN' f0 fun a3 =>
          Ld h_1 (a3.add 4) fun v3 => DSl v3 fun x3a x3l x3c =>
          NN' f0 fun a4 =>
          Ld h_1 (a4.add 5) fun v4 => DSl v4 fun x4a x4l x4c =>
          IdxA x4a x4l s0.2 4 fun a5 =>
          Ld h_1 (a5.add 1) fun v5 => DSl v5 fun x5a x5l x5c =>
          IdxA x5a x5l s1.2 2 fun a6 =>
          Ld h_1 (a6.add 1) fun v6 => DI .i64 v6 fun x6 =>
          IdxA x3a x3l x6 2 fun a7 =>
          Ld h_1 (a7.add 0) fun v7 => DS v7 fun x7 =>
          again1 (IntKind.wrap .i64 (s1.1 + ((x7 : ByteArray).size : Int)), IntKind.wrap .i64 (s1.2 + 1)) h_1
        else
          again0 (s1.1, IntKind.wrap .i64 (s0.2 + 1)) h_1)) (s0.1, 0) h_0
    else
      Q (.int .i64 s0.1) h_0)) (0, 0) h
theorem F85b_eq : (fun (f0 : Option Addr) (h : Heap) (Q : Value → Heap → Prop) => fnPT Tryz.prog Tryz.f85 (fun i => bif Nat.beq i 0 then annCons 3 (codI .i64) (annOne 4 (codI .i64)) else bif Nat.beq i 2 then annCons 3 (codI .i64) (annOne 5 (codI .i64)) else annNil) (fun _ => []) (fun _ => none) [.pointer f0] h Q) = F85b := by kernel_rfl
theorem F85b_ok {f0 : Option Addr} {h : Heap} {Q : Value → Heap → Prop} (H : F85b f0 h Q) : CallsH Tryz.prog 85 [.pointer f0] h Q :=
  callsH_of (ann := fun i => bif Nat.beq i 0 then annCons 3 (codI .i64) (annOne 4 (codI .i64)) else bif Nat.beq i 2 then annCons 3 (codI .i64) (annOne 5 (codI .i64)) else annNil) (tys := fun _ => []) (pl := fun _ => none) Tryz.func85 (by kernel_rfl) (by have e := F85b_eq; exact (congrFun (congrFun (congrFun (e) f0) h) Q).symm ▸ H)

/-- (*headgate/headgateref06.FS).List -/
def F61b (f0 : Option Addr) (dir0 : ByteArray) (h : Heap) (Q : Value → Heap → Prop) : Prop :=
  CallsH Tryz.prog 127 [.pointer f0, .string dir0, .string dir0, .string dir0] h fun r0 h_0 =>
  ∃ (x0 : Int), ∃ (x1 : Int), r0 = .tuple #[.int .i64 x0, .int .i64 x1] ∧
  (bif (x1 : Int) != 0 then
    Q (.tuple #[.slice none 0 0, .int .i64 x1]) h_0
  else
    LoopH (fun again0 (s0 : Sl × Int) h_1 =>
      NN' f0 fun a0 =>
      Ld h_1 (a0.add 5) fun v0 => DSl v0 fun x2a x2l x2c =>
      IdxA x2a x2l x0 4 fun a1 =>
      Ld h_1 (a1.add 1) fun v1 => DSl v1 fun x3a x3l x3c =>
      (bif decide ((s0.2 : Int) < (x3l : Int)) then
        NN' f0 fun a2 =>
        Ld h_1 (a2.add 5) fun v2 => DSl v2 fun x4a x4l x4c =>
        IdxA x4a x4l x0 4 fun a3 =>
        Ld h_1 (a3.add 1) fun v3 => DSl v3 fun x5a x5l x5c =>
        IdxA x5a x5l s0.2 2 fun a4 =>
        Ld h_1 (a4.add 0) fun v4 => DS v4 fun x6 =>
        Al h_1 (.cells #[.string x6] 9) fun b0 h_2 =>
        RunH Tryz.prog (Builtin.append_ #[50, 50] 50 #[.slice s0.1.a s0.1.l s0.1.c, .slice (some (Addr.mk b0 0 none)) 1 1]) h_2 fun r2 h_3 =>
        DSl r2 fun l_0a l_0l l_0c =>
        again0 (⟨l_0a, l_0l, l_0c⟩, IntKind.wrap .i64 (s0.2 + 1)) h_3
      else
        Q (.tuple #[.slice s0.1.a s0.1.l s0.1.c, .int .i64 0]) h_1)) (⟨none, 0, 0⟩, 0) h_0)
theorem F61b_eq : (fun (f0 : Option Addr) (dir0 : ByteArray) (h : Heap) (Q : Value → Heap → Prop) => fnPT Tryz.prog Tryz.f61 (fun i => bif Nat.beq i 0 then annCons 8 (codSl) (annOne 9 (codI .i64)) else annNil) (fun _ => []) (fun _ => none) [.pointer f0, .string dir0] h Q) = F61b := by kernel_rfl
theorem F61b_ok {f0 : Option Addr} {dir0 : ByteArray} {h : Heap} {Q : Value → Heap → Prop} (H : F61b f0 dir0 h Q) : CallsH Tryz.prog 61 [.pointer f0, .string dir0] h Q :=
  callsH_of (ann := fun i => bif Nat.beq i 0 then annCons 8 (codSl) (annOne 9 (codI .i64)) else annNil) (tys := fun _ => []) (pl := fun _ => none) Tryz.func61 (by kernel_rfl) (by have e := F61b_eq; exact (congrFun (congrFun (congrFun (congrFun (e) f0) dir0) h) Q).symm ▸ H)

/-- (*headgate/headgateref06.FS).Read -/
def F71b (f0 : Option Addr) (dir0 : ByteArray) (name0 : ByteArray) (h : Heap) (Q : Value → Heap → Prop) : Prop :=
  CallsH Tryz.prog 128 [.pointer f0, .string dir0, .string name0] h fun r0 h_0 =>
  ∃ (x0 : Int), ∃ (x1 : Int), ∃ (x2 : Int), r0 = .tuple #[.int .i64 x0, .int .i64 x1, .int .i64 x2] ∧
  (bif (x2 : Int) != 0 then
    Q (.tuple #[.string .empty, .int .i64 x2]) h_0
  else
    NN' f0 fun a0 =>
    Ld h_0 (a0.add 4) fun v0 => DSl v0 fun x3a x3l x3c =>
    IdxA x3a x3l x1 2 fun a1 =>
    Ld h_0 (a1.add 0) fun v1 => DS v1 fun x4 =>
    Q (.tuple #[.string x4, .int .i64 0]) h_0)
theorem F71b_eq : (fun (f0 : Option Addr) (dir0 : ByteArray) (name0 : ByteArray) (h : Heap) (Q : Value → Heap → Prop) => fnPT Tryz.prog Tryz.f71 (fun _ => annNil) (fun _ => []) (fun _ => none) [.pointer f0, .string dir0, .string name0] h Q) = F71b := by kernel_rfl
theorem F71b_ok {f0 : Option Addr} {dir0 : ByteArray} {name0 : ByteArray} {h : Heap} {Q : Value → Heap → Prop} (H : F71b f0 dir0 name0 h Q) : CallsH Tryz.prog 71 [.pointer f0, .string dir0, .string name0] h Q :=
  callsH_of (ann := fun _ => annNil) (tys := fun _ => []) (pl := fun _ => none) Tryz.func71 (by kernel_rfl) (by have e := F71b_eq; exact (congrFun (congrFun (congrFun (congrFun (congrFun (e) f0) dir0) name0) h) Q).symm ▸ H)

/-- (*headgate/headgateref06.FS).ready -/
def F127b (f0 : Option Addr) (dir0 : ByteArray) (a0 : ByteArray) (b0 : ByteArray) (h : Heap) (Q : Value → Heap → Prop) : Prop :=
  NN' f0 fun a1 =>
  Ld h (a1.add 3) fun v0 => DB v0 fun x0 =>
  (bif x0 then
    Q (.tuple #[.int .i64 (-1), .int .i64 60]) h
  else
    CallsH Tryz.prog 139 [.pointer f0, .string dir0, .string a0, .string b0] h fun r0 h_0 =>
    ∃ (x1 : Int), ∃ (x2 : Int), r0 = .tuple #[.int .i64 x1, .int .i64 x2] ∧
    Q (.tuple #[.int .i64 x1, .int .i64 x2]) h_0)
theorem F127b_eq : (fun (f0 : Option Addr) (dir0 : ByteArray) (a0 : ByteArray) (b0 : ByteArray) (h : Heap) (Q : Value → Heap → Prop) => fnPT Tryz.prog Tryz.f127 (fun _ => annNil) (fun _ => []) (fun _ => none) [.pointer f0, .string dir0, .string a0, .string b0] h Q) = F127b := by kernel_rfl
theorem F127b_ok {f0 : Option Addr} {dir0 : ByteArray} {a0 : ByteArray} {b0 : ByteArray} {h : Heap} {Q : Value → Heap → Prop} (H : F127b f0 dir0 a0 b0 h Q) : CallsH Tryz.prog 127 [.pointer f0, .string dir0, .string a0, .string b0] h Q :=
  callsH_of (ann := fun _ => annNil) (tys := fun _ => []) (pl := fun _ => none) Tryz.func127 (by kernel_rfl) (by have e := F127b_eq; exact (congrFun (congrFun (congrFun (congrFun (congrFun (congrFun (e) f0) dir0) a0) b0) h) Q).symm ▸ H)

/-- (*headgate/headgateref06.FS).step -/
def F131b (f0 : Option Addr) (h : Heap) (Q : Value → Heap → Prop) : Prop :=
  NN' f0 fun a0 =>
  Ld h (a0.add 2) fun v0 => DI .i64 v0 fun x0 =>
  (bif (x0 : Int) == 0 then
    NN' f0 fun a1 =>
    StC h ((a1.add 3).add 0) (.bool true) fun h_1 =>
    Q (.int .i64 60) h_1
  else
    NN' f0 fun a2 =>
    Ld h (a2.add 2) fun v1 => DI .i64 v1 fun x1 =>
    (bif decide ((x1 : Int) > 0) then
      NN' f0 fun a3 =>
      Ld h (a3.add 2) fun v2 => DI .i64 v2 fun x2 =>
      NN' f0 fun a4 =>
      StC h ((a4.add 2).add 0) (.int .i64 (IntKind.wrap .i64 (x2 - 1))) fun h_3 =>
      NN' f0 fun a5 =>
      Ld h_3 (a5.add 1) fun v3 => DI .i64 v3 fun x3 =>
      NN' f0 fun a6 =>
      StC h_3 ((a6.add 1).add 0) (.int .i64 (IntKind.wrap .i64 (x3 + 1))) fun h_5 =>
      Q (.int .i64 0) h_5
    else
      NN' f0 fun a7 =>
      Ld h (a7.add 1) fun v4 => DI .i64 v4 fun x4 =>
      NN' f0 fun a8 =>
      StC h ((a8.add 1).add 0) (.int .i64 (IntKind.wrap .i64 (x4 + 1))) fun h_7 =>
      Q (.int .i64 0) h_7))
theorem F131b_eq : (fun (f0 : Option Addr) (h : Heap) (Q : Value → Heap → Prop) => fnPT Tryz.prog Tryz.f131 (fun _ => annNil) (fun _ => []) (fun _ => none) [.pointer f0] h Q) = F131b := by kernel_rfl
theorem F131b_ok {f0 : Option Addr} {h : Heap} {Q : Value → Heap → Prop} (H : F131b f0 h Q) : CallsH Tryz.prog 131 [.pointer f0] h Q :=
  callsH_of (ann := fun _ => annNil) (tys := fun _ => []) (pl := fun _ => none) Tryz.func131 (by kernel_rfl) (by have e := F131b_eq; exact (congrFun (congrFun (congrFun (e) f0) h) Q).symm ▸ H)

/-- headgate/headgateref06.of -/
def F130b (l_0a : Option Addr) (l_0l : Nat) (l_0c : Nat) (name0 : ByteArray) (h : Heap) (Q : Value → Heap → Prop) : Prop :=
  LoopH (fun again0 (s0 : Int) h_0 =>
    (bif decide ((s0 : Int) < (l_0l : Int)) then
      IdxA l_0a l_0l s0 2 fun a0 =>
      Ld h_0 (a0.add 0) fun v0 => DS v0 fun x0 =>
      (bif strEq x0 name0 then
        IdxA l_0a l_0l s0 2 fun a1 =>
        Ld h_0 (a1.add 1) fun v1 => DI .i64 v1 fun x1 =>
        Q (.int .i64 x1) h_0
      else
        again0 (IntKind.wrap .i64 (s0 + 1)) h_0)
    else
      Q (.int .i64 (-1)) h_0)) 0 h
theorem F130b_eq : (fun (l_0a : Option Addr) (l_0l : Nat) (l_0c : Nat) (name0 : ByteArray) (h : Heap) (Q : Value → Heap → Prop) => fnPT Tryz.prog Tryz.f130 (fun i => bif Nat.beq i 0 then annOne 5 (codI .i64) else annNil) (fun _ => []) (fun _ => none) [.slice l_0a l_0l l_0c, .string name0] h Q) = F130b := by kernel_rfl
theorem F130b_ok {l_0a : Option Addr} {l_0l : Nat} {l_0c : Nat} {name0 : ByteArray} {h : Heap} {Q : Value → Heap → Prop} (H : F130b l_0a l_0l l_0c name0 h Q) : CallsH Tryz.prog 130 [.slice l_0a l_0l l_0c, .string name0] h Q :=
  callsH_of (ann := fun i => bif Nat.beq i 0 then annOne 5 (codI .i64) else annNil) (tys := fun _ => []) (pl := fun _ => none) Tryz.func130 (by kernel_rfl) (by have e := F130b_eq; exact (congrFun (congrFun (congrFun (congrFun (congrFun (congrFun (e) l_0a) l_0l) l_0c) name0) h) Q).symm ▸ H)

/-- (*headgate/headgateref06.FS).change -/
def F129b (f0 : Option Addr) (d0 : Int) (o0 : Int) (o1 : ByteArray) (o2 : ByteArray) (o3 : Int) (h : Heap) (Q : Value → Heap → Prop) : Prop :=
  Al h (.cells #[.int .i64 o0, .string o1, .string o2, .int .i64 o3] 199) fun b0 h_0 =>
  CallsH Tryz.prog 131 [.pointer f0] h_0 fun r1 h_1 =>
  DI .i64 r1 fun e0 =>
  (bif (e0 : Int) == 0 then
    NN' f0 fun a0 =>
    Ld h_1 (a0.add 5) fun v0 => DSl v0 fun x0a x0l x0c =>
    NN' f0 fun a1 =>
    Ld h_1 (a1.add 5) fun v1 => DSl v1 fun x1a x1l x1c =>
    IdxA x1a x1l d0 4 fun a2 =>
    Ld h_1 (a2.add 1) fun v2 => DSl v2 fun x2a x2l x2c =>
    Ld h_1 ((Addr.mk b0 0 none).add 0) fun c0 =>
    Ld h_1 ((Addr.mk b0 0 none).add 1) fun c1 =>
    Ld h_1 ((Addr.mk b0 0 none).add 2) fun c2 =>
    Ld h_1 ((Addr.mk b0 0 none).add 3) fun c3 =>
    ∃ (x3 : Int), ∃ (x4 : ByteArray), ∃ (x5 : ByteArray), ∃ (x6 : Int), (Value.agg #[c0, c1, c2, c3]) = .agg #[.int .i64 x3, .string x4, .string x5, .int .i64 x6] ∧
    CallsH Tryz.prog 138 [.slice x2a x2l x2c, .agg #[.int .i64 x3, .string x4, .string x5, .int .i64 x6]] h_1 fun r2 h_2 =>
    DSl r2 fun x7a x7l x7c =>
    (SameV (some (.pointer f0)) (.pointer f0)) ∧
    (NN' f0 fun a3 =>
    SameV (some (.pointer (some a0))) (.pointer (some a3))) ∧
    (SameV (some (.pointer (some (a0.add 5)))) (.pointer (some (a0.add 5)))) ∧
    (Ld h_2 (a0.add 5) fun v3 => DSl v3 fun x8a x8l x8c =>
    SameV (some (.slice x0a x0l x0c)) (.slice x8a x8l x8c)) ∧
    (SameV (some (.int .i64 d0)) (.int .i64 d0)) ∧
    IdxA x0a x0l d0 4 fun a4 =>
    StC h_2 ((a4.add 1).add 0) (.slice x7a x7l x7c) fun h_4 =>
    NN' f0 fun a5 =>
    Ld h_4 (a5.add 5) fun v4 => DSl v4 fun x9a x9l x9c =>
    NN' f0 fun a6 =>
    Ld h_4 (a6.add 5) fun v5 => DSl v5 fun x10a x10l x10c =>
    IdxA x10a x10l d0 4 fun a7 =>
    Ld h_4 (a7.add 3) fun v6 => DSl v6 fun x11a x11l x11c =>
    Ld h_4 ((Addr.mk b0 0 none).add 0) fun c4 =>
    Ld h_4 ((Addr.mk b0 0 none).add 1) fun c5 =>
    Ld h_4 ((Addr.mk b0 0 none).add 2) fun c6 =>
    Ld h_4 ((Addr.mk b0 0 none).add 3) fun c7 =>
    ∃ (x12 : Int), ∃ (x13 : ByteArray), ∃ (x14 : ByteArray), ∃ (x15 : Int), (Value.agg #[c4, c5, c6, c7]) = .agg #[.int .i64 x12, .string x13, .string x14, .int .i64 x15] ∧
    (Al h_4 (.cells #[] 199) fun b1 h_5 =>
    (SameV (some (.pointer f0)) (.pointer f0)) ∧
    (NN' f0 fun a8 =>
    SameV (some (.pointer (some a5))) (.pointer (some a8))) ∧
    (SameV (some (.pointer (some (a5.add 5)))) (.pointer (some (a5.add 5)))) ∧
    (Ld h_5 (a5.add 5) fun v7 => DSl v7 fun x16a x16l x16c =>
    SameV (some (.slice x9a x9l x9c)) (.slice x16a x16l x16c)) ∧
    (SameV (some (.int .i64 d0)) (.int .i64 d0)) ∧
    (SameV (some (.pointer f0)) (.pointer f0)) ∧
    (NN' f0 fun a9 =>
    SameV (some (.pointer (some a6))) (.pointer (some a9))) ∧
    (SameV (some (.pointer (some (a6.add 5)))) (.pointer (some (a6.add 5)))) ∧
    (Ld h_5 (a6.add 5) fun v8 => DSl v8 fun x17a x17l x17c =>
    SameV (some (.slice x10a x10l x10c)) (.slice x17a x17l x17c)) ∧
    (SameV (some (.int .i64 d0)) (.int .i64 d0)) ∧
    (IdxA x10a x10l d0 4 fun a10 =>
    SameV (some (.pointer (some a7))) (.pointer (some a10))) ∧
    (SameV (some (.pointer (some (a7.add 3)))) (.pointer (some (a7.add 3)))) ∧
    (Ld h_5 (a7.add 3) fun v9 => DSl v9 fun x18a x18l x18c =>
    SameV (some (.slice x11a x11l x11c)) (.slice x18a x18l x18c)) ∧
    (Ld h_5 ((Addr.mk b0 0 none).add 0) fun c8 =>
    Ld h_5 ((Addr.mk b0 0 none).add 1) fun c9 =>
    Ld h_5 ((Addr.mk b0 0 none).add 2) fun c10 =>
    Ld h_5 ((Addr.mk b0 0 none).add 3) fun c11 =>
    ∃ (x19 : Int), ∃ (x20 : ByteArray), ∃ (x21 : ByteArray), ∃ (x22 : Int), (Value.agg #[c8, c9, c10, c11]) = .agg #[.int .i64 x19, .string x20, .string x21, .int .i64 x22] ∧
    SameV (some (.agg #[.int .i64 x12, .string x13, .string x14, .int .i64 x15])) (.agg #[.int .i64 x19, .string x20, .string x21, .int .i64 x22])) ∧
    (RunH Tryz.prog (Builtin.append_ #[125, 125] 125 #[.slice (some (Addr.mk b1 0 none)) 0 0, .slice x11a x11l x11c]) h_5 fun r5 h_6 =>
    DSl r5 fun x23a x23l x23c =>
    (SameV (some (.pointer f0)) (.pointer f0)) ∧
    (NN' f0 fun a11 =>
    SameV (some (.pointer (some a5))) (.pointer (some a11))) ∧
    (SameV (some (.pointer (some (a5.add 5)))) (.pointer (some (a5.add 5)))) ∧
    (Ld h_6 (a5.add 5) fun v10 => DSl v10 fun x24a x24l x24c =>
    SameV (some (.slice x9a x9l x9c)) (.slice x24a x24l x24c)) ∧
    (SameV (some (.int .i64 d0)) (.int .i64 d0)) ∧
    (Ld h_6 ((Addr.mk b0 0 none).add 0) fun c12 =>
    Ld h_6 ((Addr.mk b0 0 none).add 1) fun c13 =>
    Ld h_6 ((Addr.mk b0 0 none).add 2) fun c14 =>
    Ld h_6 ((Addr.mk b0 0 none).add 3) fun c15 =>
    ∃ (x25 : Int), ∃ (x26 : ByteArray), ∃ (x27 : ByteArray), ∃ (x28 : Int), (Value.agg #[c12, c13, c14, c15]) = .agg #[.int .i64 x25, .string x26, .string x27, .int .i64 x28] ∧
    SameV (some (.agg #[.int .i64 x12, .string x13, .string x14, .int .i64 x15])) (.agg #[.int .i64 x25, .string x26, .string x27, .int .i64 x28])) ∧
    Al h_6 (.cells #[.int .i64 x12, .string x13, .string x14, .int .i64 x15] 199) fun b2 h_7 =>
    (SameV (some (.pointer f0)) (.pointer f0)) ∧
    (NN' f0 fun a12 =>
    SameV (some (.pointer (some a5))) (.pointer (some a12))) ∧
    (SameV (some (.pointer (some (a5.add 5)))) (.pointer (some (a5.add 5)))) ∧
    (Ld h_7 (a5.add 5) fun v11 => DSl v11 fun x29a x29l x29c =>
    SameV (some (.slice x9a x9l x9c)) (.slice x29a x29l x29c)) ∧
    (SameV (some (.int .i64 d0)) (.int .i64 d0)) ∧
    (SameV (some (.pointer f0)) (.pointer f0)) ∧
    (NN' f0 fun a13 =>
    SameV (some (.pointer (some a6))) (.pointer (some a13))) ∧
    (SameV (some (.pointer (some (a6.add 5)))) (.pointer (some (a6.add 5)))) ∧
    (Ld h_7 (a6.add 5) fun v12 => DSl v12 fun x30a x30l x30c =>
    SameV (some (.slice x10a x10l x10c)) (.slice x30a x30l x30c)) ∧
    (SameV (some (.int .i64 d0)) (.int .i64 d0)) ∧
    (IdxA x10a x10l d0 4 fun a14 =>
    SameV (some (.pointer (some a7))) (.pointer (some a14))) ∧
    (SameV (some (.pointer (some (a7.add 3)))) (.pointer (some (a7.add 3)))) ∧
    (Ld h_7 (a7.add 3) fun v13 => DSl v13 fun x31a x31l x31c =>
    SameV (some (.slice x11a x11l x11c)) (.slice x31a x31l x31c)) ∧
    RunH Tryz.prog (Builtin.append_ #[125, 125] 125 #[.slice x23a x23l x23c, .slice (some (Addr.mk b2 0 none)) 1 1]) h_7 fun r7 h_8 =>
    DSl r7 fun x32a x32l x32c =>
    (SameV (some (.pointer f0)) (.pointer f0)) ∧
    (NN' f0 fun a15 =>
    SameV (some (.pointer (some a5))) (.pointer (some a15))) ∧
    (SameV (some (.pointer (some (a5.add 5)))) (.pointer (some (a5.add 5)))) ∧
    (Ld h_8 (a5.add 5) fun v14 => DSl v14 fun x33a x33l x33c =>
    SameV (some (.slice x9a x9l x9c)) (.slice x33a x33l x33c)) ∧
    (SameV (some (.int .i64 d0)) (.int .i64 d0)) ∧
    IdxA x9a x9l d0 4 fun a16 =>
    StC h_8 ((a16.add 3).add 0) (.slice x32a x32l x32c) fun h_10 =>
    Q (.int .i64 e0) h_10) ∧
    (Al h_5 (.cells #[.int .i64 x12, .string x13, .string x14, .int .i64 x15] 199) fun b3 h_11 =>
    (SameV (some (.pointer f0)) (.pointer f0)) ∧
    (NN' f0 fun a17 =>
    SameV (some (.pointer (some a5))) (.pointer (some a17))) ∧
    (SameV (some (.pointer (some (a5.add 5)))) (.pointer (some (a5.add 5)))) ∧
    (Ld h_11 (a5.add 5) fun v15 => DSl v15 fun x34a x34l x34c =>
    SameV (some (.slice x9a x9l x9c)) (.slice x34a x34l x34c)) ∧
    (SameV (some (.int .i64 d0)) (.int .i64 d0)) ∧
    (SameV (some (.pointer f0)) (.pointer f0)) ∧
    (NN' f0 fun a18 =>
    SameV (some (.pointer (some a6))) (.pointer (some a18))) ∧
    (SameV (some (.pointer (some (a6.add 5)))) (.pointer (some (a6.add 5)))) ∧
    (Ld h_11 (a6.add 5) fun v16 => DSl v16 fun x35a x35l x35c =>
    SameV (some (.slice x10a x10l x10c)) (.slice x35a x35l x35c)) ∧
    (SameV (some (.int .i64 d0)) (.int .i64 d0)) ∧
    (IdxA x10a x10l d0 4 fun a19 =>
    SameV (some (.pointer (some a7))) (.pointer (some a19))) ∧
    (SameV (some (.pointer (some (a7.add 3)))) (.pointer (some (a7.add 3)))) ∧
    (Ld h_11 (a7.add 3) fun v17 => DSl v17 fun x36a x36l x36c =>
    SameV (some (.slice x11a x11l x11c)) (.slice x36a x36l x36c)) ∧
    RunH Tryz.prog (Builtin.append_ #[125, 125] 125 #[.slice (some (Addr.mk b1 0 none)) 0 0, .slice x11a x11l x11c]) h_11 fun r10 h_12 =>
    DSl r10 fun x37a x37l x37c =>
    (SameV (some (.pointer f0)) (.pointer f0)) ∧
    (NN' f0 fun a20 =>
    SameV (some (.pointer (some a5))) (.pointer (some a20))) ∧
    (SameV (some (.pointer (some (a5.add 5)))) (.pointer (some (a5.add 5)))) ∧
    (Ld h_12 (a5.add 5) fun v18 => DSl v18 fun x38a x38l x38c =>
    SameV (some (.slice x9a x9l x9c)) (.slice x38a x38l x38c)) ∧
    (SameV (some (.int .i64 d0)) (.int .i64 d0)) ∧
    (Ld h_12 ((Addr.mk b0 0 none).add 0) fun c16 =>
    Ld h_12 ((Addr.mk b0 0 none).add 1) fun c17 =>
    Ld h_12 ((Addr.mk b0 0 none).add 2) fun c18 =>
    Ld h_12 ((Addr.mk b0 0 none).add 3) fun c19 =>
    ∃ (x39 : Int), ∃ (x40 : ByteArray), ∃ (x41 : ByteArray), ∃ (x42 : Int), (Value.agg #[c16, c17, c18, c19]) = .agg #[.int .i64 x39, .string x40, .string x41, .int .i64 x42] ∧
    SameV (some (.agg #[.int .i64 x12, .string x13, .string x14, .int .i64 x15])) (.agg #[.int .i64 x39, .string x40, .string x41, .int .i64 x42])) ∧
    RunH Tryz.prog (Builtin.append_ #[125, 125] 125 #[.slice x37a x37l x37c, .slice (some (Addr.mk b3 0 none)) 1 1]) h_12 fun r11 h_13 =>
    DSl r11 fun x43a x43l x43c =>
    (SameV (some (.pointer f0)) (.pointer f0)) ∧
    (NN' f0 fun a21 =>
    SameV (some (.pointer (some a5))) (.pointer (some a21))) ∧
    (SameV (some (.pointer (some (a5.add 5)))) (.pointer (some (a5.add 5)))) ∧
    (Ld h_13 (a5.add 5) fun v19 => DSl v19 fun x44a x44l x44c =>
    SameV (some (.slice x9a x9l x9c)) (.slice x44a x44l x44c)) ∧
    (SameV (some (.int .i64 d0)) (.int .i64 d0)) ∧
    IdxA x9a x9l d0 4 fun a22 =>
    StC h_13 ((a22.add 3).add 0) (.slice x43a x43l x43c) fun h_15 =>
    Q (.int .i64 e0) h_15)) ∧
    (Al h_4 (.cells #[.int .i64 x12, .string x13, .string x14, .int .i64 x15] 199) fun b4 h_16 =>
    (SameV (some (.pointer f0)) (.pointer f0)) ∧
    (NN' f0 fun a23 =>
    SameV (some (.pointer (some a5))) (.pointer (some a23))) ∧
    (SameV (some (.pointer (some (a5.add 5)))) (.pointer (some (a5.add 5)))) ∧
    (Ld h_16 (a5.add 5) fun v20 => DSl v20 fun x45a x45l x45c =>
    SameV (some (.slice x9a x9l x9c)) (.slice x45a x45l x45c)) ∧
    (SameV (some (.int .i64 d0)) (.int .i64 d0)) ∧
    (SameV (some (.pointer f0)) (.pointer f0)) ∧
    (NN' f0 fun a24 =>
    SameV (some (.pointer (some a6))) (.pointer (some a24))) ∧
    (SameV (some (.pointer (some (a6.add 5)))) (.pointer (some (a6.add 5)))) ∧
    (Ld h_16 (a6.add 5) fun v21 => DSl v21 fun x46a x46l x46c =>
    SameV (some (.slice x10a x10l x10c)) (.slice x46a x46l x46c)) ∧
    (SameV (some (.int .i64 d0)) (.int .i64 d0)) ∧
    (IdxA x10a x10l d0 4 fun a25 =>
    SameV (some (.pointer (some a7))) (.pointer (some a25))) ∧
    (SameV (some (.pointer (some (a7.add 3)))) (.pointer (some (a7.add 3)))) ∧
    (Ld h_16 (a7.add 3) fun v22 => DSl v22 fun x47a x47l x47c =>
    SameV (some (.slice x11a x11l x11c)) (.slice x47a x47l x47c)) ∧
    Al h_16 (.cells #[] 199) fun b5 h_17 =>
    (SameV (some (.pointer f0)) (.pointer f0)) ∧
    (NN' f0 fun a26 =>
    SameV (some (.pointer (some a5))) (.pointer (some a26))) ∧
    (SameV (some (.pointer (some (a5.add 5)))) (.pointer (some (a5.add 5)))) ∧
    (Ld h_17 (a5.add 5) fun v23 => DSl v23 fun x48a x48l x48c =>
    SameV (some (.slice x9a x9l x9c)) (.slice x48a x48l x48c)) ∧
    (SameV (some (.int .i64 d0)) (.int .i64 d0)) ∧
    (SameV (some (.pointer f0)) (.pointer f0)) ∧
    (NN' f0 fun a27 =>
    SameV (some (.pointer (some a6))) (.pointer (some a27))) ∧
    (SameV (some (.pointer (some (a6.add 5)))) (.pointer (some (a6.add 5)))) ∧
    (Ld h_17 (a6.add 5) fun v24 => DSl v24 fun x49a x49l x49c =>
    SameV (some (.slice x10a x10l x10c)) (.slice x49a x49l x49c)) ∧
    (SameV (some (.int .i64 d0)) (.int .i64 d0)) ∧
    (IdxA x10a x10l d0 4 fun a28 =>
    SameV (some (.pointer (some a7))) (.pointer (some a28))) ∧
    (SameV (some (.pointer (some (a7.add 3)))) (.pointer (some (a7.add 3)))) ∧
    (Ld h_17 (a7.add 3) fun v25 => DSl v25 fun x50a x50l x50c =>
    SameV (some (.slice x11a x11l x11c)) (.slice x50a x50l x50c)) ∧
    (Ld h_17 ((Addr.mk b0 0 none).add 0) fun c20 =>
    Ld h_17 ((Addr.mk b0 0 none).add 1) fun c21 =>
    Ld h_17 ((Addr.mk b0 0 none).add 2) fun c22 =>
    Ld h_17 ((Addr.mk b0 0 none).add 3) fun c23 =>
    ∃ (x51 : Int), ∃ (x52 : ByteArray), ∃ (x53 : ByteArray), ∃ (x54 : Int), (Value.agg #[c20, c21, c22, c23]) = .agg #[.int .i64 x51, .string x52, .string x53, .int .i64 x54] ∧
    SameV (some (.agg #[.int .i64 x12, .string x13, .string x14, .int .i64 x15])) (.agg #[.int .i64 x51, .string x52, .string x53, .int .i64 x54])) ∧
    RunH Tryz.prog (Builtin.append_ #[125, 125] 125 #[.slice (some (Addr.mk b5 0 none)) 0 0, .slice x11a x11l x11c]) h_17 fun r15 h_18 =>
    DSl r15 fun x55a x55l x55c =>
    (SameV (some (.pointer f0)) (.pointer f0)) ∧
    (NN' f0 fun a29 =>
    SameV (some (.pointer (some a5))) (.pointer (some a29))) ∧
    (SameV (some (.pointer (some (a5.add 5)))) (.pointer (some (a5.add 5)))) ∧
    (Ld h_18 (a5.add 5) fun v26 => DSl v26 fun x56a x56l x56c =>
    SameV (some (.slice x9a x9l x9c)) (.slice x56a x56l x56c)) ∧
    (SameV (some (.int .i64 d0)) (.int .i64 d0)) ∧
    (Ld h_18 ((Addr.mk b0 0 none).add 0) fun c24 =>
    Ld h_18 ((Addr.mk b0 0 none).add 1) fun c25 =>
    Ld h_18 ((Addr.mk b0 0 none).add 2) fun c26 =>
    Ld h_18 ((Addr.mk b0 0 none).add 3) fun c27 =>
    ∃ (x57 : Int), ∃ (x58 : ByteArray), ∃ (x59 : ByteArray), ∃ (x60 : Int), (Value.agg #[c24, c25, c26, c27]) = .agg #[.int .i64 x57, .string x58, .string x59, .int .i64 x60] ∧
    SameV (some (.agg #[.int .i64 x12, .string x13, .string x14, .int .i64 x15])) (.agg #[.int .i64 x57, .string x58, .string x59, .int .i64 x60])) ∧
    RunH Tryz.prog (Builtin.append_ #[125, 125] 125 #[.slice x55a x55l x55c, .slice (some (Addr.mk b4 0 none)) 1 1]) h_18 fun r16 h_19 =>
    DSl r16 fun x61a x61l x61c =>
    (SameV (some (.pointer f0)) (.pointer f0)) ∧
    (NN' f0 fun a30 =>
    SameV (some (.pointer (some a5))) (.pointer (some a30))) ∧
    (SameV (some (.pointer (some (a5.add 5)))) (.pointer (some (a5.add 5)))) ∧
    (Ld h_19 (a5.add 5) fun v27 => DSl v27 fun x62a x62l x62c =>
    SameV (some (.slice x9a x9l x9c)) (.slice x62a x62l x62c)) ∧
    (SameV (some (.int .i64 d0)) (.int .i64 d0)) ∧
    IdxA x9a x9l d0 4 fun a31 =>
    StC h_19 ((a31.add 3).add 0) (.slice x61a x61l x61c) fun h_21 =>
    Q (.int .i64 e0) h_21)
  else
    Q (.int .i64 e0) h_1)
theorem F129b_eq : (fun (f0 : Option Addr) (d0 : Int) (o0 : Int) (o1 : ByteArray) (o2 : ByteArray) (o3 : Int) (h : Heap) (Q : Value → Heap → Prop) => fnPT Tryz.prog Tryz.f129 (fun _ => annNil) (fun _ => []) (fun i => bif Nat.beq i 3 then some ⟨[0, 1, 3, 7, 0, 0, 32, 96, 224, 0, 992, 2016, 4064, 0, 16352, 32767, 65535, 131071], 147456⟩ else bif Nat.beq i 4 then some ⟨[0, 1, 3, 7, 0, 0, 0, 64, 192, 448, 0, 1984, 4032, 8128, 16352, 0, 32768, 131040, 262143, 524287, 1048575], 1261600⟩ else none) [.pointer f0, .int .i64 d0, .agg #[.int .i64 o0, .string o1, .string o2, .int .i64 o3]] h Q) = F129b := by kernel_rfl
theorem F129b_ok {f0 : Option Addr} {d0 : Int} {o0 : Int} {o1 : ByteArray} {o2 : ByteArray} {o3 : Int} {h : Heap} {Q : Value → Heap → Prop} (H : F129b f0 d0 o0 o1 o2 o3 h Q) : CallsH Tryz.prog 129 [.pointer f0, .int .i64 d0, .agg #[.int .i64 o0, .string o1, .string o2, .int .i64 o3]] h Q :=
  callsH_of (ann := fun _ => annNil) (tys := fun _ => []) (pl := fun i => bif Nat.beq i 3 then some ⟨[0, 1, 3, 7, 0, 0, 32, 96, 224, 0, 992, 2016, 4064, 0, 16352, 32767, 65535, 131071], 147456⟩ else bif Nat.beq i 4 then some ⟨[0, 1, 3, 7, 0, 0, 0, 64, 192, 448, 0, 1984, 4032, 8128, 16352, 0, 32768, 131040, 262143, 524287, 1048575], 1261600⟩ else none) Tryz.func129 (by kernel_rfl) (by have e := F129b_eq; exact (congrFun (congrFun (congrFun (congrFun (congrFun (congrFun (congrFun (congrFun (e) f0) d0) o0) o1) o2) o3) h) Q).symm ▸ H)

/-- (*headgate/headgateref06.FS).entry -/
def F128b (f0 : Option Addr) (dir0 : ByteArray) (name0 : ByteArray) (h : Heap) (Q : Value → Heap → Prop) : Prop :=
  CallsH Tryz.prog 127 [.pointer f0, .string dir0, .string name0, .string name0] h fun r0 h_0 =>
  ∃ (x0 : Int), ∃ (x1 : Int), r0 = .tuple #[.int .i64 x0, .int .i64 x1] ∧
  (bif (x1 : Int) != 0 then
    Q (.tuple #[.int .i64 (-1), .int .i64 (-1), .int .i64 x1]) h_0
  else
    NN' f0 fun a0 =>
    Ld h_0 (a0.add 5) fun v0 => DSl v0 fun x2a x2l x2c =>
    IdxA x2a x2l x0 4 fun a1 =>
    Ld h_0 (a1.add 1) fun v1 => DSl v1 fun x3a x3l x3c =>
    CallsH Tryz.prog 130 [.slice x3a x3l x3c, .string name0] h_0 fun r1 h_1 =>
    DI .i64 r1 fun x4 =>
    (bif decide ((x4 : Int) < 0) then
      Q (.tuple #[.int .i64 (-1), .int .i64 (-1), .int .i64 62]) h_1
    else
      Q (.tuple #[.int .i64 x0, .int .i64 x4, .int .i64 0]) h_1))
theorem F128b_eq : (fun (f0 : Option Addr) (dir0 : ByteArray) (name0 : ByteArray) (h : Heap) (Q : Value → Heap → Prop) => fnPT Tryz.prog Tryz.f128 (fun _ => annNil) (fun _ => []) (fun _ => none) [.pointer f0, .string dir0, .string name0] h Q) = F128b := by kernel_rfl
theorem F128b_ok {f0 : Option Addr} {dir0 : ByteArray} {name0 : ByteArray} {h : Heap} {Q : Value → Heap → Prop} (H : F128b f0 dir0 name0 h Q) : CallsH Tryz.prog 128 [.pointer f0, .string dir0, .string name0] h Q :=
  callsH_of (ann := fun _ => annNil) (tys := fun _ => []) (pl := fun _ => none) Tryz.func128 (by kernel_rfl) (by have e := F128b_eq; exact (congrFun (congrFun (congrFun (congrFun (congrFun (e) f0) dir0) name0) h) Q).symm ▸ H)

/-- headgate/headgateref06.pick -/
def F137b (l_0a : Option Addr) (l_0l : Nat) (l_0c : Nat) (n0 : Int) (h : Heap) (Q : Value → Heap → Prop) : Prop :=
  (bif ((l_0l : Int) : Int) == 0 then
    Q (.tuple #[.int .i64 0, .slice l_0a l_0l l_0c]) h
  else
    IdxA l_0a l_0l 0 1 fun a0 =>
    Ld h a0 fun v0 => DI .i64 v0 fun x0 =>
    ((IntKind.wrap .u64 (IntKind.wrap .i64 (n0 + 1))) : Int) ≠ 0 ∧
    SlV l_0a l_0c 1 1 (l_0l : Int) (l_0c : Int) fun s0a s0l s0c =>
    Q (.tuple #[.int .i64 (IntKind.wrap .i64 (Int.tmod (IntKind.wrap .u64 x0) (IntKind.wrap .u64 (IntKind.wrap .i64 (n0 + 1))))), .slice s0a s0l s0c]) h)
theorem F137b_eq : (fun (l_0a : Option Addr) (l_0l : Nat) (l_0c : Nat) (n0 : Int) (h : Heap) (Q : Value → Heap → Prop) => fnPT Tryz.prog Tryz.f137 (fun _ => annNil) (fun _ => []) (fun _ => none) [.slice l_0a l_0l l_0c, .int .i64 n0] h Q) = F137b := by kernel_rfl
theorem F137b_ok {l_0a : Option Addr} {l_0l : Nat} {l_0c : Nat} {n0 : Int} {h : Heap} {Q : Value → Heap → Prop} (H : F137b l_0a l_0l l_0c n0 h Q) : CallsH Tryz.prog 137 [.slice l_0a l_0l l_0c, .int .i64 n0] h Q :=
  callsH_of (ann := fun _ => annNil) (tys := fun _ => []) (pl := fun _ => none) Tryz.func137 (by kernel_rfl) (by have e := F137b_eq; exact (congrFun (congrFun (congrFun (congrFun (congrFun (congrFun (e) l_0a) l_0l) l_0c) n0) h) Q).symm ▸ H)

/-- headgate/headgateref06.does -/
def F138b (l_0a : Option Addr) (l_0l : Nat) (l_0c : Nat) (o0 : Int) (o1 : ByteArray) (o2 : ByteArray) (o3 : Int) (h : Heap) (Q : Value → Heap → Prop) : Prop :=
  Al h (.cells #[.int .i64 o0, .string o1, .string o2, .int .i64 o3] 199) fun b0 h_0 =>
  Ld h_0 ((Addr.mk b0 0 none).add 0) fun v0 => DI .i64 v0 fun x0 =>
  (bif (x0 : Int) == 1 then
    Ld h_0 ((Addr.mk b0 0 none).add 1) fun v1 => DS v1 fun x1 =>
    Ld h_0 ((Addr.mk b0 0 none).add 3) fun v2 => DI .i64 v2 fun x2 =>
    CallsH Tryz.prog 140 [.slice l_0a l_0l l_0c, .string x1, .int .i64 x2] h_0 fun r1 h_1 =>
    DSl r1 fun x3a x3l x3c =>
    Q (.slice x3a x3l x3c) h_1
  else
    (bif (x0 : Int) == 2 then
      Ld h_0 ((Addr.mk b0 0 none).add 1) fun v3 => DS v3 fun x4 =>
      CallsH Tryz.prog 130 [.slice l_0a l_0l l_0c, .string x4] h_0 fun r2 h_2 =>
      DI .i64 r2 fun x5 =>
      Ld h_2 ((Addr.mk b0 0 none).add 1) fun v4 => DS v4 fun x6 =>
      Ld h_2 ((Addr.mk b0 0 none).add 2) fun v5 => DS v5 fun x7 =>
      CallsH Tryz.prog 165 [.slice l_0a l_0l l_0c, .string x6] h_2 fun r3 h_3 =>
      DSl r3 fun x8a x8l x8c =>
      (SameV (some (.pointer (some ((Addr.mk b0 0 none).add 2)))) (.pointer (some ((Addr.mk b0 0 none).add 2)))) ∧
      (Ld h_3 ((Addr.mk b0 0 none).add 2) fun v6 => DS v6 fun x9 =>
      SameV (some (.string x7)) (.string x9)) ∧
      (SameV (some (.int .i64 x5)) (.int .i64 x5)) ∧
      CallsH Tryz.prog 140 [.slice x8a x8l x8c, .string x7, .int .i64 x5] h_3 fun r4 h_4 =>
      DSl r4 fun x10a x10l x10c =>
      Q (.slice x10a x10l x10c) h_4
    else
      Ld h_0 ((Addr.mk b0 0 none).add 1) fun v7 => DS v7 fun x11 =>
      CallsH Tryz.prog 165 [.slice l_0a l_0l l_0c, .string x11] h_0 fun r5 h_5 =>
      DSl r5 fun x12a x12l x12c =>
      Q (.slice x12a x12l x12c) h_5))
theorem F138b_eq : (fun (l_0a : Option Addr) (l_0l : Nat) (l_0c : Nat) (o0 : Int) (o1 : ByteArray) (o2 : ByteArray) (o3 : Int) (h : Heap) (Q : Value → Heap → Prop) => fnPT Tryz.prog Tryz.f138 (fun _ => annNil) (fun _ => []) (fun i => bif Nat.beq i 6 then some ⟨[0, 0, 2, 7, 0, 16, 0, 127, 255], 136⟩ else none) [.slice l_0a l_0l l_0c, .agg #[.int .i64 o0, .string o1, .string o2, .int .i64 o3]] h Q) = F138b := by kernel_rfl
theorem F138b_ok {l_0a : Option Addr} {l_0l : Nat} {l_0c : Nat} {o0 : Int} {o1 : ByteArray} {o2 : ByteArray} {o3 : Int} {h : Heap} {Q : Value → Heap → Prop} (H : F138b l_0a l_0l l_0c o0 o1 o2 o3 h Q) : CallsH Tryz.prog 138 [.slice l_0a l_0l l_0c, .agg #[.int .i64 o0, .string o1, .string o2, .int .i64 o3]] h Q :=
  callsH_of (ann := fun _ => annNil) (tys := fun _ => []) (pl := fun i => bif Nat.beq i 6 then some ⟨[0, 0, 2, 7, 0, 16, 0, 127, 255], 136⟩ else none) Tryz.func138 (by kernel_rfl) (by have e := F138b_eq; exact (congrFun (congrFun (congrFun (congrFun (congrFun (congrFun (congrFun (congrFun (congrFun (e) l_0a) l_0l) l_0c) o0) o1) o2) o3) h) Q).symm ▸ H)

/-- (*headgate/headgateref06.FS).named -/
def F139b (f0 : Option Addr) (dir0 : ByteArray) (a0 : ByteArray) (b0 : ByteArray) (h : Heap) (Q : Value → Heap → Prop) : Prop :=
  CallsH Tryz.prog 166 [.string dir0] h fun r0 h_0 =>
  DB r0 fun x0 =>
  (bif !x0 then
    Q (.tuple #[.int .i64 (-1), .int .i64 65]) h_0
  else
    CallsH Tryz.prog 166 [.string a0] h_0 fun r1 h_1 =>
    DB r1 fun x1 =>
    (bif !x1 then
      Q (.tuple #[.int .i64 (-1), .int .i64 65]) h_1
    else
      CallsH Tryz.prog 166 [.string b0] h_1 fun r2 h_2 =>
      DB r2 fun x2 =>
      (bif !x2 then
        Q (.tuple #[.int .i64 (-1), .int .i64 65]) h_2
      else
        CallsH Tryz.prog 167 [.pointer f0, .string dir0] h_2 fun r3 h_3 =>
        DI .i64 r3 fun d0 =>
        (bif decide ((d0 : Int) < 0) then
          Q (.tuple #[.int .i64 (-1), .int .i64 61]) h_3
        else
          Q (.tuple #[.int .i64 d0, .int .i64 0]) h_3))))
theorem F139b_eq : (fun (f0 : Option Addr) (dir0 : ByteArray) (a0 : ByteArray) (b0 : ByteArray) (h : Heap) (Q : Value → Heap → Prop) => fnPT Tryz.prog Tryz.f139 (fun _ => annNil) (fun _ => []) (fun _ => none) [.pointer f0, .string dir0, .string a0, .string b0] h Q) = F139b := by kernel_rfl
theorem F139b_ok {f0 : Option Addr} {dir0 : ByteArray} {a0 : ByteArray} {b0 : ByteArray} {h : Heap} {Q : Value → Heap → Prop} (H : F139b f0 dir0 a0 b0 h Q) : CallsH Tryz.prog 139 [.pointer f0, .string dir0, .string a0, .string b0] h Q :=
  callsH_of (ann := fun _ => annNil) (tys := fun _ => []) (pl := fun _ => none) Tryz.func139 (by kernel_rfl) (by have e := F139b_eq; exact (congrFun (congrFun (congrFun (congrFun (congrFun (congrFun (e) f0) dir0) a0) b0) h) Q).symm ▸ H)

/-- headgate/headgateref06.set -/
def F140b (l_0a : Option Addr) (l_0l : Nat) (l_0c : Nat) (name0 : ByteArray) (file0 : Int) (h : Heap) (Q : Value → Heap → Prop) : Prop :=
  LoopH (fun again0 (s0 : Sl × Bool × Int) h_0 =>
    (bif decide ((s0.2.2 : Int) < (l_0l : Int)) then
      (bif !s0.2.1 then
        IdxA l_0a l_0l s0.2.2 2 fun a0 =>
        Ld h_0 (a0.add 0) fun v0 => DS v0 fun x0 =>
        (bif !strLt x0 name0 then
          Al h_0 (.cells #[.string name0, .int .i64 file0] 194) fun b0 h_1 =>
          RunH Tryz.prog (Builtin.append_ #[124, 124] 124 #[.slice s0.1.a s0.1.l s0.1.c, .slice (some (Addr.mk b0 0 none)) 1 1]) h_1 fun r1 h_2 =>
          DSl r1 fun out0a out0l out0c =>
          IdxA l_0a l_0l s0.2.2 2 fun a1 =>
          Ld h_2 (a1.add 0) fun v1 => DS v1 fun x1 =>
          (bif !strEq x1 name0 then
            IdxA l_0a l_0l s0.2.2 2 fun a2 =>
            Ld h_2 (a2.add 0) fun c0 =>
            Ld h_2 (a2.add 1) fun c1 =>
            ∃ (x2 : ByteArray), ∃ (x3 : Int), (Value.agg #[c0, c1]) = .agg #[.string x2, .int .i64 x3] ∧
            Al h_2 (.cells #[.string x2, .int .i64 x3] 194) fun b1 h_3 =>
            RunH Tryz.prog (Builtin.append_ #[124, 124] 124 #[.slice out0a out0l out0c, .slice (some (Addr.mk b1 0 none)) 1 1]) h_3 fun r3 h_4 =>
            DSl r3 fun out1a out1l out1c =>
            again0 (⟨out1a, out1l, out1c⟩, true, IntKind.wrap .i64 (s0.2.2 + 1)) h_4
          else
            again0 (⟨out0a, out0l, out0c⟩, true, IntKind.wrap .i64 (s0.2.2 + 1)) h_2)
        else
          IdxA l_0a l_0l s0.2.2 2 fun a3 =>
          Ld h_0 (a3.add 0) fun v2 => DS v2 fun x4 =>
          (bif !strEq x4 name0 then
            IdxA l_0a l_0l s0.2.2 2 fun a4 =>
            Ld h_0 (a4.add 0) fun c2 =>
            Ld h_0 (a4.add 1) fun c3 =>
            ∃ (x5 : ByteArray), ∃ (x6 : Int), (Value.agg #[c2, c3]) = .agg #[.string x5, .int .i64 x6] ∧
            Al h_0 (.cells #[.string x5, .int .i64 x6] 194) fun b2 h_5 =>
            RunH Tryz.prog (Builtin.append_ #[124, 124] 124 #[.slice s0.1.a s0.1.l s0.1.c, .slice (some (Addr.mk b2 0 none)) 1 1]) h_5 fun r5 h_6 =>
            DSl r5 fun out2a out2l out2c =>
            again0 (⟨out2a, out2l, out2c⟩, s0.2.1, IntKind.wrap .i64 (s0.2.2 + 1)) h_6
          else
            again0 (⟨s0.1.a, s0.1.l, s0.1.c⟩, s0.2.1, IntKind.wrap .i64 (s0.2.2 + 1)) h_0))
      else
        IdxA l_0a l_0l s0.2.2 2 fun a5 =>
        Ld h_0 (a5.add 0) fun v3 => DS v3 fun x7 =>
        (bif !strEq x7 name0 then
          IdxA l_0a l_0l s0.2.2 2 fun a6 =>
          Ld h_0 (a6.add 0) fun c4 =>
          Ld h_0 (a6.add 1) fun c5 =>
          ∃ (x8 : ByteArray), ∃ (x9 : Int), (Value.agg #[c4, c5]) = .agg #[.string x8, .int .i64 x9] ∧
          Al h_0 (.cells #[.string x8, .int .i64 x9] 194) fun b3 h_7 =>
          RunH Tryz.prog (Builtin.append_ #[124, 124] 124 #[.slice s0.1.a s0.1.l s0.1.c, .slice (some (Addr.mk b3 0 none)) 1 1]) h_7 fun r7 h_8 =>
          DSl r7 fun out3a out3l out3c =>
          again0 (⟨out3a, out3l, out3c⟩, s0.2.1, IntKind.wrap .i64 (s0.2.2 + 1)) h_8
        else
          again0 (⟨s0.1.a, s0.1.l, s0.1.c⟩, s0.2.1, IntKind.wrap .i64 (s0.2.2 + 1)) h_0))
    else
      (bif !s0.2.1 then
        Al h_0 (.cells #[.string name0, .int .i64 file0] 194) fun b4 h_9 =>
        RunH Tryz.prog (Builtin.append_ #[124, 124] 124 #[.slice s0.1.a s0.1.l s0.1.c, .slice (some (Addr.mk b4 0 none)) 1 1]) h_9 fun r9 h_10 =>
        DSl r9 fun out4a out4l out4c =>
        Q (.slice out4a out4l out4c) h_10
      else
        Q (.slice s0.1.a s0.1.l s0.1.c) h_0))) (⟨none, 0, 0⟩, false, 0) h
theorem F140b_eq : (fun (l_0a : Option Addr) (l_0l : Nat) (l_0c : Nat) (name0 : ByteArray) (file0 : Int) (h : Heap) (Q : Value → Heap → Prop) => fnPT Tryz.prog Tryz.f140 (fun i => bif Nat.beq i 0 then annCons 7 (codSl) (annCons 8 (codB) (annOne 9 (codI .i64))) else annNil) (fun _ => []) (fun _ => none) [.slice l_0a l_0l l_0c, .string name0, .int .i64 file0] h Q) = F140b := by kernel_rfl
theorem F140b_ok {l_0a : Option Addr} {l_0l : Nat} {l_0c : Nat} {name0 : ByteArray} {file0 : Int} {h : Heap} {Q : Value → Heap → Prop} (H : F140b l_0a l_0l l_0c name0 file0 h Q) : CallsH Tryz.prog 140 [.slice l_0a l_0l l_0c, .string name0, .int .i64 file0] h Q :=
  callsH_of (ann := fun i => bif Nat.beq i 0 then annCons 7 (codSl) (annCons 8 (codB) (annOne 9 (codI .i64))) else annNil) (tys := fun _ => []) (pl := fun _ => none) Tryz.func140 (by kernel_rfl) (by have e := F140b_eq; exact (congrFun (congrFun (congrFun (congrFun (congrFun (congrFun (congrFun (e) l_0a) l_0l) l_0c) name0) file0) h) Q).symm ▸ H)

/-- headgate/headgateref06.drop -/
def F165b (l_0a : Option Addr) (l_0l : Nat) (l_0c : Nat) (name0 : ByteArray) (h : Heap) (Q : Value → Heap → Prop) : Prop :=
  LoopH (fun again0 (s0 : Sl × Int) h_0 =>
    (bif decide ((s0.2 : Int) < (l_0l : Int)) then
      IdxA l_0a l_0l s0.2 2 fun a0 =>
      Ld h_0 (a0.add 0) fun v0 => DS v0 fun x0 =>
      (bif !strEq x0 name0 then
        IdxA l_0a l_0l s0.2 2 fun a1 =>
        Ld h_0 (a1.add 0) fun c0 =>
        Ld h_0 (a1.add 1) fun c1 =>
        ∃ (x1 : ByteArray), ∃ (x2 : Int), (Value.agg #[c0, c1]) = .agg #[.string x1, .int .i64 x2] ∧
        Al h_0 (.cells #[.string x1, .int .i64 x2] 194) fun b0 h_1 =>
        RunH Tryz.prog (Builtin.append_ #[124, 124] 124 #[.slice s0.1.a s0.1.l s0.1.c, .slice (some (Addr.mk b0 0 none)) 1 1]) h_1 fun r1 h_2 =>
        DSl r1 fun out0a out0l out0c =>
        again0 (⟨out0a, out0l, out0c⟩, IntKind.wrap .i64 (s0.2 + 1)) h_2
      else
        again0 (⟨s0.1.a, s0.1.l, s0.1.c⟩, IntKind.wrap .i64 (s0.2 + 1)) h_0)
    else
      Q (.slice s0.1.a s0.1.l s0.1.c) h_0)) (⟨none, 0, 0⟩, 0) h
theorem F165b_eq : (fun (l_0a : Option Addr) (l_0l : Nat) (l_0c : Nat) (name0 : ByteArray) (h : Heap) (Q : Value → Heap → Prop) => fnPT Tryz.prog Tryz.f165 (fun i => bif Nat.beq i 0 then annCons 5 (codSl) (annOne 6 (codI .i64)) else annNil) (fun _ => []) (fun _ => none) [.slice l_0a l_0l l_0c, .string name0] h Q) = F165b := by kernel_rfl
theorem F165b_ok {l_0a : Option Addr} {l_0l : Nat} {l_0c : Nat} {name0 : ByteArray} {h : Heap} {Q : Value → Heap → Prop} (H : F165b l_0a l_0l l_0c name0 h Q) : CallsH Tryz.prog 165 [.slice l_0a l_0l l_0c, .string name0] h Q :=
  callsH_of (ann := fun i => bif Nat.beq i 0 then annCons 5 (codSl) (annOne 6 (codI .i64)) else annNil) (tys := fun _ => []) (pl := fun _ => none) Tryz.func165 (by kernel_rfl) (by have e := F165b_eq; exact (congrFun (congrFun (congrFun (congrFun (congrFun (congrFun (e) l_0a) l_0l) l_0c) name0) h) Q).symm ▸ H)

/-- headgate/headgateref06.Right -/
def F166b (s0 : ByteArray) (h : Heap) (Q : Value → Heap → Prop) : Prop :=
  (bif decide ((((s0 : ByteArray).size : Int) : Int) < 1) then
    Q (.bool false) h
  else
    (bif decide ((((s0 : ByteArray).size : Int) : Int) > 32) then
      Q (.bool false) h
    else
      LoopH (fun again0 (s1 : Int) h_0 =>
        (bif decide ((s1 : Int) < ((s0 : ByteArray).size : Int)) then
          0 ≤ (s1 : Int) ∧ (s1 : Int) < ((s0 : ByteArray).size : Int) ∧
          (bif decide (((bt s0 s1) : Int) ≥ 97) then
            (bif decide (((bt s0 s1) : Int) ≤ 122) then
              again0 (IntKind.wrap .i64 (s1 + 1)) h_0
            else
              (bif decide (((bt s0 s1) : Int) ≥ 48) then
                (bif decide (((bt s0 s1) : Int) ≤ 57) then
                  again0 (IntKind.wrap .i64 (s1 + 1)) h_0
                else
                  (bif !(((bt s0 s1) : Int) == 46) then
                    Q (.bool false) h_0
                  else
                    again0 (IntKind.wrap .i64 (s1 + 1)) h_0))
              else
                (bif !(((bt s0 s1) : Int) == 46) then
                  Q (.bool false) h_0
                else
                  again0 (IntKind.wrap .i64 (s1 + 1)) h_0)))
          else
            (bif decide (((bt s0 s1) : Int) ≥ 48) then
              (bif decide (((bt s0 s1) : Int) ≤ 57) then
                again0 (IntKind.wrap .i64 (s1 + 1)) h_0
              else
                (bif !(((bt s0 s1) : Int) == 46) then
                  Q (.bool false) h_0
                else
                  again0 (IntKind.wrap .i64 (s1 + 1)) h_0))
            else
              (bif !(((bt s0 s1) : Int) == 46) then
                Q (.bool false) h_0
              else
                again0 (IntKind.wrap .i64 (s1 + 1)) h_0)))
        else
          Q (.bool true) h_0)) 0 h))
theorem F166b_eq : (fun (s0 : ByteArray) (h : Heap) (Q : Value → Heap → Prop) => fnPT Tryz.prog Tryz.f166 (fun i => bif Nat.beq i 0 then annOne 3 (codI .i64) else annNil) (fun _ => []) (fun _ => none) [.string s0] h Q) = F166b := by kernel_rfl
theorem F166b_ok {s0 : ByteArray} {h : Heap} {Q : Value → Heap → Prop} (H : F166b s0 h Q) : CallsH Tryz.prog 166 [.string s0] h Q :=
  callsH_of (ann := fun i => bif Nat.beq i 0 then annOne 3 (codI .i64) else annNil) (tys := fun _ => []) (pl := fun _ => none) Tryz.func166 (by kernel_rfl) (by have e := F166b_eq; exact (congrFun (congrFun (congrFun (e) s0) h) Q).symm ▸ H)

/-- (*headgate/headgateref06.FS).at -/
def F167b (f0 : Option Addr) (dir0 : ByteArray) (h : Heap) (Q : Value → Heap → Prop) : Prop :=
  LoopH (fun again0 (s0 : Int) h_0 =>
    NN' f0 fun a0 =>
    Ld h_0 (a0.add 5) fun v0 => DSl v0 fun x0a x0l x0c =>
    (bif decide ((s0 : Int) < (x0l : Int)) then
      NN' f0 fun a1 =>
      Ld h_0 (a1.add 5) fun v1 => DSl v1 fun x1a x1l x1c =>
      IdxA x1a x1l s0 4 fun a2 =>
      Ld h_0 (a2.add 0) fun v2 => DS v2 fun x2 =>
      (bif strEq x2 dir0 then
        Q (.int .i64 s0) h_0
      else
        again0 (IntKind.wrap .i64 (s0 + 1)) h_0)
    else
      Q (.int .i64 (-1)) h_0)) 0 h
theorem F167b_eq : (fun (f0 : Option Addr) (dir0 : ByteArray) (h : Heap) (Q : Value → Heap → Prop) => fnPT Tryz.prog Tryz.f167 (fun i => bif Nat.beq i 0 then annOne 5 (codI .i64) else annNil) (fun _ => []) (fun _ => none) [.pointer f0, .string dir0] h Q) = F167b := by kernel_rfl
theorem F167b_ok {f0 : Option Addr} {dir0 : ByteArray} {h : Heap} {Q : Value → Heap → Prop} (H : F167b f0 dir0 h Q) : CallsH Tryz.prog 167 [.pointer f0, .string dir0] h Q :=
  callsH_of (ann := fun i => bif Nat.beq i 0 then annOne 5 (codI .i64) else annNil) (tys := fun _ => []) (pl := fun _ => none) Tryz.func167 (by kernel_rfl) (by have e := F167b_eq; exact (congrFun (congrFun (congrFun (congrFun (e) f0) dir0) h) Q).symm ▸ H)

end Go.Proofs.YticjjdhaikbdaaaGreat
