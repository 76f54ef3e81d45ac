/- The texts over heaps of functions of the program: written by a program of this claim's writer (decomp.py); Lean checks each against the code. -/
import Derived.Test.YtibdiikcigokjaaGreatSkFwE
import Derived.Test.YtibdiikcigokjaaGreatProg
namespace Go.Proofs.YtibdiikcigokjaaGreat
open Go Go.RowKit
set_option linter.unusedVariables false
set_option maxRecDepth 100000

/-- headgate/headgatelaw18.StateKeeps -/
def F5 (steps0a : Option Addr) (steps0l : Nat) (steps0c : Nat) (snaps0 : Int) (drop0 : Int) (fuse0 : Int) (picks0a : Option Addr) (picks0l : Nat) (picks0c : Nat) (h : Heap) (Q : Value → Heap → Prop) : Prop :=
  CallsH Tryz.prog 7 [] h fun r0 h_0 =>
  DB r0 fun x0 =>
  (bif !x0 then
    Q (.bool false) h_0
  else
    (bif decide (((steps0l : Int) : Int) > 12) then
      Q (.bool true) h_0
    else
      (bif decide (((picks0l : Int) : Int) > 100) then
        Q (.bool true) h_0
      else
        CallsH Tryz.prog 14 [.int .i64 1048576] h_0 fun r1 h_1 =>
        ∃ (x1 : Option Addr), ∃ (x2 : Int), r1 = .tuple #[.pointer x1, .int .i64 x2] ∧
        CallsH Tryz.prog 9 [.pointer x1, .string ⟨#[115]⟩] h_1 fun r2 h_2 =>
        ∃ (x3 : Option Addr), ∃ (x4 : Int), r2 = .tuple #[.pointer x3, .int .i64 x4] ∧
        (bif (x4 : Int) != 0 then
          Q (.bool false) h_2
        else
          CallsH Tryz.prog 19 [.pointer x1, .int .i64 (IntKind.wrap .i64 fuse0)] h_2 fun r3 h_3 =>
          DI .i64 r3 fun x5 =>
          CallsH Tryz.prog 15 [.slice none 0 0] h_3 fun r4 h_4 =>
          DP r4 fun was0 =>
          LoopH (fun again0 (s0 : Sl × Option Addr × Int) h_5 =>
            (bif decide ((s0.2.2 : Int) < (steps0l : Int)) then
              IdxA steps0a steps0l s0.2.2 1 fun a0 =>
              Ld h_5 a0 fun v0 => DSl v0 fun x6a x6l x6c =>
              CallsH Tryz.prog 16 [.slice x6a x6l x6c] h_5 fun r5 h_6 =>
              DB r5 fun x7 =>
              (bif x7 then
                Q (.bool true) h_6
              else
                IdxA steps0a steps0l s0.2.2 1 fun a1 =>
                Ld h_6 a1 fun v1 => DSl v1 fun x8a x8l x8c =>
                CallsH Tryz.prog 17 [.slice x8a x8l x8c] h_6 fun r6 h_7 =>
                DSl r6 fun now0a now0l now0c =>
                Al h_7 (.cells #[.string ⟨#[106, 117, 110, 107]⟩, .string ⟨#[120]⟩] 50) fun b0 h_8 =>
                CallsH Tryz.prog 15 [.slice (some (Addr.mk b0 0 none)) 1 1] h_8 fun r8 h_9 =>
                DP r8 fun x9 =>
                CallsH Tryz.prog 10 [.pointer x3, .int .i64 (IntKind.wrap .i64 (s0.2.2 + 1)), .pointer s0.2.1, .pointer x9] h_9 fun r9 h_10 =>
                DI .i64 r9 fun x10 =>
                (bif (x10 : Int) != 0 then
                  ((IntKind.wrap .i64 ((s0.1.l : Int) + 1)) : Int) ≠ 0 ∧
                  CallsH Tryz.prog 12 [.pointer x3, .int .i64 (Int.tmod (IntKind.wrap .i64 drop0) (IntKind.wrap .i64 ((s0.1.l : Int) + 1)))] h_10 fun r10 h_11 =>
                  DI .i64 r10 fun x11 =>
                  CallsH Tryz.prog 20 [.pointer x1, .slice picks0a picks0l picks0c] h_11 fun r11 h_12 =>
                  DI .i64 r11 fun x12 =>
                  CallsH Tryz.prog 9 [.pointer x1, .string ⟨#[115]⟩] h_12 fun r12 h_13 =>
                  ∃ (x13 : Option Addr), ∃ (x14 : Int), r12 = .tuple #[.pointer x13, .int .i64 x14] ∧
                  (bif (x14 : Int) != 0 then
                    Q (.bool false) h_13
                  else
                    LoopH (fun again1 (s1 : Int) h_14 =>
                      (bif decide ((s1 : Int) < (s0.1.l : Int)) then
                        (bif decide (((IntKind.wrap .i64 (s1 + 1)) : Int) < (Int.tmod (IntKind.wrap .i64 drop0) (IntKind.wrap .i64 ((s0.1.l : Int) + 1)))) then
                          again1 (IntKind.wrap .i64 (s1 + 1)) h_14
                        else
                          CallsH Tryz.prog 8 [.pointer x13, .int .i64 (IntKind.wrap .i64 (s1 + 1))] h_14 fun r13 h_15 =>
                          ∃ (x15 : Option Addr), ∃ (x16 : Int), r13 = .tuple #[.pointer x15, .int .i64 x16] ∧
                          (bif (x16 : Int) != 0 then
                            (SameV (some (.tuple #[])) (.tuple #[])) ∧
                            (SameV (some (.tuple #[])) (.tuple #[])) ∧
                            (SameV (some (.tuple #[])) (.tuple #[])) ∧
                            (SameV (some (.tuple #[])) (.tuple #[])) ∧
                            Q (.bool false) h_15
                          else
                            IdxA s0.1.a s0.1.l s1 1 fun a2 =>
                            Ld h_15 a2 fun v2 => DSl v2 fun x17a x17l x17c =>
                            CallsH Tryz.prog 22 [.pointer x15] h_15 fun r14 h_16 =>
                            DSl r14 fun x18a x18l x18c =>
                            (SameV (some (.slice s0.1.a s0.1.l s0.1.c)) (.slice s0.1.a s0.1.l s0.1.c)) ∧
                            (SameV (some (.int .i64 s1)) (.int .i64 s1)) ∧
                            (IdxA s0.1.a s0.1.l s1 1 fun a3 =>
                            SameV (some (.pointer (some a2))) (.pointer (some a3))) ∧
                            (Ld h_16 a2 fun v3 => DSl v3 fun x19a x19l x19c =>
                            SameV (some (.slice x17a x17l x17c)) (.slice x19a x19l x19c)) ∧
                            CallsH Tryz.prog 21 [.slice x18a x18l x18c, .slice x17a x17l x17c] h_16 fun r15 h_17 =>
                            DB r15 fun x20 =>
                            (bif !x20 then
                              Q (.bool false) h_17
                            else
                              again1 (IntKind.wrap .i64 (s1 + 1)) h_17)))
                      else
                        Q (.bool true) h_14)) 0 h_13)
                else
                  CallsH Tryz.prog 15 [.slice now0a now0l now0c] h_10 fun r16 h_18 =>
                  DP r16 fun x21 =>
                  CallsH Tryz.prog 10 [.pointer x3, .int .i64 (IntKind.wrap .i64 (s0.2.2 + 1)), .pointer s0.2.1, .pointer x21] h_18 fun r17 h_19 =>
                  DI .i64 r17 fun x22 =>
                  (bif (x22 : Int) != 0 then
                    ((IntKind.wrap .i64 ((s0.1.l : Int) + 1)) : Int) ≠ 0 ∧
                    CallsH Tryz.prog 12 [.pointer x3, .int .i64 (Int.tmod (IntKind.wrap .i64 drop0) (IntKind.wrap .i64 ((s0.1.l : Int) + 1)))] h_19 fun r18 h_20 =>
                    DI .i64 r18 fun x23 =>
                    CallsH Tryz.prog 20 [.pointer x1, .slice picks0a picks0l picks0c] h_20 fun r19 h_21 =>
                    DI .i64 r19 fun x24 =>
                    CallsH Tryz.prog 9 [.pointer x1, .string ⟨#[115]⟩] h_21 fun r20 h_22 =>
                    ∃ (x25 : Option Addr), ∃ (x26 : Int), r20 = .tuple #[.pointer x25, .int .i64 x26] ∧
                    (bif (x26 : Int) != 0 then
                      Q (.bool false) h_22
                    else
                      LoopH (fun again2 (s2 : Int) h_23 =>
                        (bif decide ((s2 : Int) < (s0.1.l : Int)) then
                          (bif decide (((IntKind.wrap .i64 (s2 + 1)) : Int) < (Int.tmod (IntKind.wrap .i64 drop0) (IntKind.wrap .i64 ((s0.1.l : Int) + 1)))) then
                            again2 (IntKind.wrap .i64 (s2 + 1)) h_23
                          else
                            CallsH Tryz.prog 8 [.pointer x25, .int .i64 (IntKind.wrap .i64 (s2 + 1))] h_23 fun r21 h_24 =>
                            ∃ (x27 : Option Addr), ∃ (x28 : Int), r21 = .tuple #[.pointer x27, .int .i64 x28] ∧
                            (bif (x28 : Int) != 0 then
                              (SameV (some (.tuple #[])) (.tuple #[])) ∧
                              (SameV (some (.tuple #[])) (.tuple #[])) ∧
                              (SameV (some (.tuple #[])) (.tuple #[])) ∧
                              (SameV (some (.tuple #[])) (.tuple #[])) ∧
                              Q (.bool false) h_24
                            else
                              IdxA s0.1.a s0.1.l s2 1 fun a4 =>
                              Ld h_24 a4 fun v4 => DSl v4 fun x29a x29l x29c =>
                              CallsH Tryz.prog 22 [.pointer x27] h_24 fun r22 h_25 =>
                              DSl r22 fun x30a x30l x30c =>
                              (SameV (some (.slice s0.1.a s0.1.l s0.1.c)) (.slice s0.1.a s0.1.l s0.1.c)) ∧
                              (SameV (some (.int .i64 s2)) (.int .i64 s2)) ∧
                              (IdxA s0.1.a s0.1.l s2 1 fun a5 =>
                              SameV (some (.pointer (some a4))) (.pointer (some a5))) ∧
                              (Ld h_25 a4 fun v5 => DSl v5 fun x31a x31l x31c =>
                              SameV (some (.slice x29a x29l x29c)) (.slice x31a x31l x31c)) ∧
                              CallsH Tryz.prog 21 [.slice x30a x30l x30c, .slice x29a x29l x29c] h_25 fun r23 h_26 =>
                              DB r23 fun x32 =>
                              (bif !x32 then
                                Q (.bool false) h_26
                              else
                                again2 (IntKind.wrap .i64 (s2 + 1)) h_26)))
                        else
                          Q (.bool true) h_23)) 0 h_22)
                  else
                    Al h_19 (.cells #[.slice now0a now0l now0c] 41) fun b1 h_27 =>
                    RunH Tryz.prog (Builtin.append_ #[34, 34] 34 #[.slice s0.1.a s0.1.l s0.1.c, .slice (some (Addr.mk b1 0 none)) 1 1]) h_27 fun r25 h_28 =>
                    DSl r25 fun all0a all0l all0c =>
                    CallsH Tryz.prog 15 [.slice now0a now0l now0c] h_28 fun r26 h_29 =>
                    DP r26 fun was1 =>
                    0 ≤ ((IntKind.wrap .u64 s0.2.2) : Int) ∧
                    (bif ((bitsI .and .u16 (shrI .u16 snaps0 (IntKind.wrap .u64 s0.2.2)) 1) : Int) == 1 then
                      CallsH Tryz.prog 11 [.pointer x3, .int .i64 (IntKind.wrap .i64 (s0.2.2 + 1))] h_29 fun r27 h_30 =>
                      DI .i64 r27 fun x33 =>
                      (bif (x33 : Int) != 0 then
                        ((IntKind.wrap .i64 ((all0l : Int) + 1)) : Int) ≠ 0 ∧
                        CallsH Tryz.prog 12 [.pointer x3, .int .i64 (Int.tmod (IntKind.wrap .i64 drop0) (IntKind.wrap .i64 ((all0l : Int) + 1)))] h_30 fun r28 h_31 =>
                        DI .i64 r28 fun x34 =>
                        CallsH Tryz.prog 20 [.pointer x1, .slice picks0a picks0l picks0c] h_31 fun r29 h_32 =>
                        DI .i64 r29 fun x35 =>
                        CallsH Tryz.prog 9 [.pointer x1, .string ⟨#[115]⟩] h_32 fun r30 h_33 =>
                        ∃ (x36 : Option Addr), ∃ (x37 : Int), r30 = .tuple #[.pointer x36, .int .i64 x37] ∧
                        (bif (x37 : Int) != 0 then
                          Q (.bool false) h_33
                        else
                          LoopH (fun again3 (s3 : Int) h_34 =>
                            (bif decide ((s3 : Int) < (all0l : Int)) then
                              (bif decide (((IntKind.wrap .i64 (s3 + 1)) : Int) < (Int.tmod (IntKind.wrap .i64 drop0) (IntKind.wrap .i64 ((all0l : Int) + 1)))) then
                                again3 (IntKind.wrap .i64 (s3 + 1)) h_34
                              else
                                CallsH Tryz.prog 8 [.pointer x36, .int .i64 (IntKind.wrap .i64 (s3 + 1))] h_34 fun r31 h_35 =>
                                ∃ (x38 : Option Addr), ∃ (x39 : Int), r31 = .tuple #[.pointer x38, .int .i64 x39] ∧
                                (bif (x39 : Int) != 0 then
                                  (SameV (some (.tuple #[])) (.tuple #[])) ∧
                                  (SameV (some (.tuple #[])) (.tuple #[])) ∧
                                  (SameV (some (.tuple #[])) (.tuple #[])) ∧
                                  (SameV (some (.tuple #[])) (.tuple #[])) ∧
                                  Q (.bool false) h_35
                                else
                                  IdxA all0a all0l s3 1 fun a6 =>
                                  Ld h_35 a6 fun v6 => DSl v6 fun x40a x40l x40c =>
                                  CallsH Tryz.prog 22 [.pointer x38] h_35 fun r32 h_36 =>
                                  DSl r32 fun x41a x41l x41c =>
                                  (SameV (some (.slice all0a all0l all0c)) (.slice all0a all0l all0c)) ∧
                                  (SameV (some (.int .i64 s3)) (.int .i64 s3)) ∧
                                  (IdxA all0a all0l s3 1 fun a7 =>
                                  SameV (some (.pointer (some a6))) (.pointer (some a7))) ∧
                                  (Ld h_36 a6 fun v7 => DSl v7 fun x42a x42l x42c =>
                                  SameV (some (.slice x40a x40l x40c)) (.slice x42a x42l x42c)) ∧
                                  CallsH Tryz.prog 21 [.slice x41a x41l x41c, .slice x40a x40l x40c] h_36 fun r33 h_37 =>
                                  DB r33 fun x43 =>
                                  (bif !x43 then
                                    Q (.bool false) h_37
                                  else
                                    again3 (IntKind.wrap .i64 (s3 + 1)) h_37)))
                            else
                              Q (.bool true) h_34)) 0 h_33)
                      else
                        again0 (⟨all0a, all0l, all0c⟩, was1, IntKind.wrap .i64 (s0.2.2 + 1)) h_30)
                    else
                      again0 (⟨all0a, all0l, all0c⟩, was1, IntKind.wrap .i64 (s0.2.2 + 1)) h_29))))
            else
              ((IntKind.wrap .i64 ((s0.1.l : Int) + 1)) : Int) ≠ 0 ∧
              CallsH Tryz.prog 12 [.pointer x3, .int .i64 (Int.tmod (IntKind.wrap .i64 drop0) (IntKind.wrap .i64 ((s0.1.l : Int) + 1)))] h_5 fun r34 h_38 =>
              DI .i64 r34 fun x44 =>
              CallsH Tryz.prog 20 [.pointer x1, .slice picks0a picks0l picks0c] h_38 fun r35 h_39 =>
              DI .i64 r35 fun x45 =>
              CallsH Tryz.prog 9 [.pointer x1, .string ⟨#[115]⟩] h_39 fun r36 h_40 =>
              ∃ (x46 : Option Addr), ∃ (x47 : Int), r36 = .tuple #[.pointer x46, .int .i64 x47] ∧
              (bif (x47 : Int) != 0 then
                Q (.bool false) h_40
              else
                LoopH (fun again4 (s4 : Int) h_41 =>
                  (bif decide ((s4 : Int) < (s0.1.l : Int)) then
                    (bif decide (((IntKind.wrap .i64 (s4 + 1)) : Int) < (Int.tmod (IntKind.wrap .i64 drop0) (IntKind.wrap .i64 ((s0.1.l : Int) + 1)))) then
                      again4 (IntKind.wrap .i64 (s4 + 1)) h_41
                    else
                      CallsH Tryz.prog 8 [.pointer x46, .int .i64 (IntKind.wrap .i64 (s4 + 1))] h_41 fun r37 h_42 =>
                      ∃ (x48 : Option Addr), ∃ (x49 : Int), r37 = .tuple #[.pointer x48, .int .i64 x49] ∧
                      (bif (x49 : Int) != 0 then
                        (SameV (some (.tuple #[])) (.tuple #[])) ∧
                        (SameV (some (.tuple #[])) (.tuple #[])) ∧
                        (SameV (some (.tuple #[])) (.tuple #[])) ∧
                        (SameV (some (.tuple #[])) (.tuple #[])) ∧
                        Q (.bool false) h_42
                      else
                        IdxA s0.1.a s0.1.l s4 1 fun a8 =>
                        Ld h_42 a8 fun v8 => DSl v8 fun x50a x50l x50c =>
                        CallsH Tryz.prog 22 [.pointer x48] h_42 fun r38 h_43 =>
                        DSl r38 fun x51a x51l x51c =>
                        (SameV (some (.slice s0.1.a s0.1.l s0.1.c)) (.slice s0.1.a s0.1.l s0.1.c)) ∧
                        (SameV (some (.int .i64 s4)) (.int .i64 s4)) ∧
                        (IdxA s0.1.a s0.1.l s4 1 fun a9 =>
                        SameV (some (.pointer (some a8))) (.pointer (some a9))) ∧
                        (Ld h_43 a8 fun v9 => DSl v9 fun x52a x52l x52c =>
                        SameV (some (.slice x50a x50l x50c)) (.slice x52a x52l x52c)) ∧
                        CallsH Tryz.prog 21 [.slice x51a x51l x51c, .slice x50a x50l x50c] h_43 fun r39 h_44 =>
                        DB r39 fun x53 =>
                        (bif !x53 then
                          Q (.bool false) h_44
                        else
                          again4 (IntKind.wrap .i64 (s4 + 1)) h_44)))
                  else
                    Q (.bool true) h_41)) 0 h_40))) (⟨none, 0, 0⟩, was0, 0) h_4))))
theorem F5_eq : (fun (steps0a : Option Addr) (steps0l : Nat) (steps0c : Nat) (snaps0 : Int) (drop0 : Int) (fuse0 : Int) (picks0a : Option Addr) (picks0l : Nat) (picks0c : Nat) (h : Heap) (Q : Value → Heap → Prop) => fnPT Tryz.prog Tryz.f5 (fun i => bif Nat.beq i 0 then annCons 15 (codSl) (annCons 16 (codP) (annOne 17 (codI .i64))) else bif Nat.beq i 2 then annOne 21 (codI .i64) else annNil) (fun _ => []) (fun i => bif Nat.beq i 34 then some ⟨[0, 1, 3, 7, 15, 7, 7, 103, 231, 511, 1023, 2047], 528⟩ else none) [.slice steps0a steps0l steps0c, .int .u16 snaps0, .int .u8 drop0, .int .u8 fuse0, .slice picks0a picks0l picks0c] h Q) = F5 := by kernel_rfl
theorem F5_ok {steps0a : Option Addr} {steps0l : Nat} {steps0c : Nat} {snaps0 : Int} {drop0 : Int} {fuse0 : Int} {picks0a : Option Addr} {picks0l : Nat} {picks0c : Nat} {h : Heap} {Q : Value → Heap → Prop} (H : F5 steps0a steps0l steps0c snaps0 drop0 fuse0 picks0a picks0l picks0c h Q) : CallsH Tryz.prog 5 [.slice steps0a steps0l steps0c, .int .u16 snaps0, .int .u8 drop0, .int .u8 fuse0, .slice picks0a picks0l picks0c] h Q :=
  callsH_of (ann := fun i => bif Nat.beq i 0 then annCons 15 (codSl) (annCons 16 (codP) (annOne 17 (codI .i64))) else bif Nat.beq i 2 then annOne 21 (codI .i64) else annNil) (tys := fun _ => []) (pl := fun i => bif Nat.beq i 34 then some ⟨[0, 1, 3, 7, 15, 7, 7, 103, 231, 511, 1023, 2047], 528⟩ else none) Tryz.func5 (by kernel_rfl) (by have e := F5_eq; exact (congrFun (congrFun (congrFun (congrFun (congrFun (congrFun (congrFun (congrFun (congrFun (congrFun (congrFun (e) steps0a) steps0l) steps0c) snaps0) drop0) fuse0) picks0a) picks0l) picks0c) h) Q).symm ▸ H)

/-- headgate/headgatelaw18.alive -/
def F7 (h : Heap) (Q : Value → Heap → Prop) : Prop :=
  CallsH Tryz.prog 14 [.int .i64 10000] h fun r0 h_0 =>
  ∃ (x0 : Option Addr), ∃ (x1 : Int), r0 = .tuple #[.pointer x0, .int .i64 x1] ∧
  (bif (x1 : Int) != 0 then
    Q (.bool false) h_0
  else
    (bif (x0).isNone then
      Q (.bool false) h_0
    else
      CallsH Tryz.prog 9 [.pointer x0, .string ⟨#[115]⟩] h_0 fun r1 h_1 =>
      ∃ (x2 : Option Addr), ∃ (x3 : Int), r1 = .tuple #[.pointer x2, .int .i64 x3] ∧
      Al h_1 (.cells #[.string ⟨#[97]⟩, .string ⟨#[120]⟩] 50) fun b0 h_2 =>
      CallsH Tryz.prog 15 [.slice (some (Addr.mk b0 0 none)) 1 1] h_2 fun r3 h_3 =>
      DP r3 fun a0 =>
      Al h_3 (.cells #[.string ⟨#[98]⟩, .string ⟨#[121]⟩] 50) fun b1 h_4 =>
      CallsH Tryz.prog 15 [.slice (some (Addr.mk b1 0 none)) 1 1] h_4 fun r5 h_5 =>
      DP r5 fun b2 =>
      (bif (x3 : Int) != 0 then
        Q (.bool false) h_5
      else
        (bif (x2).isNone then
          Q (.bool false) h_5
        else
          CallsH Tryz.prog 10 [.pointer x2, .int .i64 1, .pointer none, .pointer a0] h_5 fun r6 h_6 =>
          DI .i64 r6 fun x4 =>
          (bif (x4 : Int) != 0 then
            Q (.bool false) h_6
          else
            CallsH Tryz.prog 10 [.pointer x2, .int .i64 2, .pointer a0, .pointer b2] h_6 fun r7 h_7 =>
            DI .i64 r7 fun x5 =>
            (bif (x5 : Int) != 0 then
              Q (.bool false) h_7
            else
              CallsH Tryz.prog 11 [.pointer x2, .int .i64 2] h_7 fun r8 h_8 =>
              DI .i64 r8 fun x6 =>
              (bif (x6 : Int) != 0 then
                Q (.bool false) h_8
              else
                CallsH Tryz.prog 12 [.pointer x2, .int .i64 2] h_8 fun r9 h_9 =>
                DI .i64 r9 fun x7 =>
                (bif (x7 : Int) != 0 then
                  Q (.bool false) h_9
                else
                  CallsH Tryz.prog 13 [.pointer x2] h_9 fun r10 h_10 =>
                  DI .i64 r10 fun x8 =>
                  (bif (x8 : Int) != 1 then
                    Q (.bool false) h_10
                  else
                    CallsH Tryz.prog 8 [.pointer x2, .int .i64 2] h_10 fun r11 h_11 =>
                    ∃ (x9 : Option Addr), ∃ (x10 : Int), r11 = .tuple #[.pointer x9, .int .i64 x10] ∧
                    CallsH Tryz.prog 8 [.pointer x2, .int .i64 1] h_11 fun r12 h_12 =>
                    ∃ (x11 : Option Addr), ∃ (x12 : Int), r12 = .tuple #[.pointer x11, .int .i64 x12] ∧
                    (bif (x10 : Int) == 0 then
                      (bif (x12 : Int) == 180 then
                        CallsH Tryz.prog 22 [.pointer x9] h_12 fun r13 h_13 =>
                        DSl r13 fun x13a x13l x13c =>
                        Al h_13 (.cells #[.string ⟨#[98]⟩, .string ⟨#[121]⟩] 50) fun b3 h_14 =>
                        CallsH Tryz.prog 21 [.slice x13a x13l x13c, .slice (some (Addr.mk b3 0 none)) 1 1] h_14 fun r15 h_15 =>
                        DB r15 fun x14 =>
                        Q (.bool x14) h_15
                      else
                        Q (.bool false) h_12)
                    else
                      Q (.bool false) h_12))))))))))
theorem F7_eq : (fun (h : Heap) (Q : Value → Heap → Prop) => fnPT Tryz.prog Tryz.f7 (fun _ => annNil) (fun _ => []) (fun _ => none) [] h Q) = F7 := by kernel_rfl
theorem F7_ok {h : Heap} {Q : Value → Heap → Prop} (H : F7 h Q) : CallsH Tryz.prog 7 [] h Q :=
  callsH_of (ann := fun _ => annNil) (tys := fun _ => []) (pl := fun _ => none) Tryz.func7 (by kernel_rfl) (by have e := F7_eq; exact (congrFun (congrFun (e) h) Q).symm ▸ H)

/-- (*headgate/state.Store).Load -/
def F8 (s0 : Option Addr) (v0 : Int) (h : Heap) (Q : Value → Heap → Prop) : Prop :=
  (bif (s0).isNone then
    Q (.tuple #[.pointer none, .int .i64 1]) h
  else
    (bif decide ((v0 : Int) < 0) then
      Q (.tuple #[.pointer none, .int .i64 2]) h
    else
      (bif decide ((v0 : Int) > 1099511627776) then
        Q (.tuple #[.pointer none, .int .i64 2]) h
      else
        CallsH Tryz.prog 33 [.pointer s0, .int .i64 v0] h fun r0 h_0 =>
        DI .i64 r0 fun at_0 =>
        LoopH (fun again0 (s1 : Int) h_1 =>
          (bif decide ((s1 : Int) ≤ v0) then
            NN' s0 fun a0 =>
            Ld h_1 (a0.add 2) fun v1 => DM v1 fun x0 =>
            ∃ es0, mapEs h_1 x0 es0 ∧ ∃ f0, Instr.findNow (.int .i64) (.int .i64 s1) (es0 : Array MapEntry).toList 0 = some f0 ∧
            ((Option.map (fun x => x.2) f0).getD (.agg #[])) = .agg #[] ∧
            Al h_1 (.cells #[] 81) fun b0 h_2 =>
            (bif !(Option.isSome f0) then
              Q (.tuple #[.pointer none, .int .i64 180]) h_2
            else
              again0 (IntKind.wrap .i64 (s1 + 1)) h_2)
          else
            CallsH Tryz.prog 34 [.slice none 0 0] h_1 fun r3 h_4 =>
            DP r3 fun t0 =>
            (bif decide ((at_0 : Int) > 0) then
              CallsH Tryz.prog 36 [.string ⟨#[110]⟩, .int .i64 at_0] h_4 fun r4 h_5 =>
              DS r4 fun x1 =>
              CallsH Tryz.prog 35 [.pointer s0, .string x1] h_5 fun r5 h_6 =>
              ∃ (x2a : Option Addr), ∃ (x2l : Nat), ∃ (x2c : Nat), ∃ (x3 : Int), r5 = .tuple #[.slice x2a x2l x2c, .int .i64 x3] ∧
              (bif (x3 : Int) != 0 then
                Q (.tuple #[.pointer none, .int .i64 x3]) h_6
              else
                CallsH Tryz.prog 37 [.slice x2a x2l x2c, .func (.func 38) #[] #[]] h_6 fun r6 h_7 =>
                DB r6 fun x4 =>
                (bif !x4 then
                  Q (.tuple #[.pointer none, .int .i64 181]) h_7
                else
                  LoopH (fun again1 (s2 : Int) h_8 =>
                    (bif decide ((s2 : Int) < (x2l : Int)) then
                      IdxA x2a x2l s2 2 fun a1 =>
                      Ld h_8 (a1.add 0) fun c0 =>
                      Ld h_8 (a1.add 1) fun c1 =>
                      ∃ (x5 : ByteArray), ∃ (x6 : ByteArray), (Value.agg #[c0, c1]) = .agg #[.string x5, .string x6] ∧
                      Al h_8 (.cells #[.string .empty, .string .empty] 50) fun b1 h_9 =>
                      StC h_9 ((Addr.mk b1 0 none).add 0) (.string x5) fun h_11 =>
                      StC h_11 ((Addr.mk b1 0 none).add 1) (.string x6) fun h_12 =>
                      Ld h_12 ((Addr.mk b1 0 none).add 0) fun v2 => DS v2 fun x7 =>
                      Ld h_12 ((Addr.mk b1 0 none).add 1) fun v3 => DS v3 fun x8 =>
                      CallsH Tryz.prog 39 [.pointer t0, .string x7, .string x8] h_12 fun r9 h_13 =>
                      r9 = .tuple #[] ∧
                      again1 (IntKind.wrap .i64 (s2 + 1)) h_13
                    else
                      LoopH (fun again2 (s3 : Option Addr × Int) h_14 =>
                        (bif decide ((s3.2 : Int) ≤ v0) then
                          CallsH Tryz.prog 36 [.string ⟨#[100]⟩, .int .i64 s3.2] h_14 fun r10 h_15 =>
                          DS r10 fun x9 =>
                          CallsH Tryz.prog 35 [.pointer s0, .string x9] h_15 fun r11 h_16 =>
                          ∃ (x10a : Option Addr), ∃ (x10l : Nat), ∃ (x10c : Nat), ∃ (x11 : Int), r11 = .tuple #[.slice x10a x10l x10c, .int .i64 x11] ∧
                          (bif (x11 : Int) != 0 then
                            Q (.tuple #[.pointer none, .int .i64 x11]) h_16
                          else
                            CallsH Tryz.prog 40 [.slice x10a x10l x10c] h_16 fun r12 h_17 =>
                            ∃ (x12a : Option Addr), ∃ (x12l : Nat), ∃ (x12c : Nat), ∃ (x13 : Bool), r12 = .tuple #[.slice x12a x12l x12c, .bool x13] ∧
                            (bif !x13 then
                              Q (.tuple #[.pointer none, .int .i64 181]) h_17
                            else
                              CallsH Tryz.prog 41 [.pointer s3.1, .slice x12a x12l x12c] h_17 fun r13 h_18 =>
                              DP r13 fun t1 =>
                              again2 (t1, IntKind.wrap .i64 (s3.2 + 1)) h_18))
                        else
                          Q (.tuple #[.pointer s3.1, .int .i64 0]) h_14)) (t0, IntKind.wrap .i64 (at_0 + 1)) h_8)) 0 h_7))
            else
              LoopH (fun again3 (s4 : Option Addr × Int) h_19 =>
                (bif decide ((s4.2 : Int) ≤ v0) then
                  CallsH Tryz.prog 36 [.string ⟨#[100]⟩, .int .i64 s4.2] h_19 fun r14 h_20 =>
                  DS r14 fun x14 =>
                  CallsH Tryz.prog 35 [.pointer s0, .string x14] h_20 fun r15 h_21 =>
                  ∃ (x15a : Option Addr), ∃ (x15l : Nat), ∃ (x15c : Nat), ∃ (x16 : Int), r15 = .tuple #[.slice x15a x15l x15c, .int .i64 x16] ∧
                  (bif (x16 : Int) != 0 then
                    Q (.tuple #[.pointer none, .int .i64 x16]) h_21
                  else
                    CallsH Tryz.prog 40 [.slice x15a x15l x15c] h_21 fun r16 h_22 =>
                    ∃ (x17a : Option Addr), ∃ (x17l : Nat), ∃ (x17c : Nat), ∃ (x18 : Bool), r16 = .tuple #[.slice x17a x17l x17c, .bool x18] ∧
                    (bif !x18 then
                      Q (.tuple #[.pointer none, .int .i64 181]) h_22
                    else
                      CallsH Tryz.prog 41 [.pointer s4.1, .slice x17a x17l x17c] h_22 fun r17 h_23 =>
                      DP r17 fun t2 =>
                      again3 (t2, IntKind.wrap .i64 (s4.2 + 1)) h_23))
                else
                  Q (.tuple #[.pointer s4.1, .int .i64 0]) h_19)) (t0, IntKind.wrap .i64 (at_0 + 1)) h_4))) (IntKind.wrap .i64 (at_0 + 1)) h_0)))
theorem F8_eq : (fun (s0 : Option Addr) (v0 : Int) (h : Heap) (Q : Value → Heap → Prop) => fnPT Tryz.prog Tryz.f8 (fun i => bif Nat.beq i 0 then annOne 7 (codI .i64) else bif Nat.beq i 2 then annOne 67 (codI .i64) else bif Nat.beq i 4 then annCons 10 (codP) (annOne 15 (codI .i64)) else annNil) (fun _ => []) (fun _ => none) [.pointer s0, .int .i64 v0] h Q) = F8 := by kernel_rfl
theorem F8_ok {s0 : Option Addr} {v0 : Int} {h : Heap} {Q : Value → Heap → Prop} (H : F8 s0 v0 h Q) : CallsH Tryz.prog 8 [.pointer s0, .int .i64 v0] h Q :=
  callsH_of (ann := fun i => bif Nat.beq i 0 then annOne 7 (codI .i64) else bif Nat.beq i 2 then annOne 67 (codI .i64) else bif Nat.beq i 4 then annCons 10 (codP) (annOne 15 (codI .i64)) else annNil) (tys := fun _ => []) (pl := fun _ => none) Tryz.func8 (by kernel_rfl) (by have e := F8_eq; exact (congrFun (congrFun (congrFun (congrFun (e) s0) v0) h) Q).symm ▸ H)

/-- headgate/state.Open -/
def F9 (f0 : Option Addr) (dir0 : ByteArray) (h : Heap) (Q : Value → Heap → Prop) : Prop :=
  CallsH Tryz.prog 42 [.pointer f0, .string dir0] h fun r0 h_0 =>
  ∃ (x0a : Option Addr), ∃ (x0l : Nat), ∃ (x0c : Nat), ∃ (x1 : Int), r0 = .tuple #[.slice x0a x0l x0c, .int .i64 x1] ∧
  (bif (x1 : Int) != 0 then
    Q (.tuple #[.pointer none, .int .i64 x1]) h_0
  else
    Al h_0 (.map #[] 0) fun b0 h_1 =>
    Al h_1 (.map #[] 0) fun b1 h_2 =>
    Al h_2 (.cells #[.pointer f0, .string dir0, .map (some b0), .map (some b1)] 86) fun b2 h_3 =>
    LoopH (fun again0 (s0 : Int) h_4 =>
      (bif decide ((s0 : Int) < (x0l : Int)) then
        IdxA x0a x0l s0 1 fun a0 =>
        Ld h_4 a0 fun v0 => DS v0 fun n0 =>
        (bif (((n0 : ByteArray).size : Int) : Int) != 18 then
          again0 (IntKind.wrap .i64 (s0 + 1)) h_4
        else
          0 ≤ (1 : Int) ∧ (1 : Int) < ((n0 : ByteArray).size : Int) ∧
          (bif ((bt n0 1) : Int) != 46 then
            again0 (IntKind.wrap .i64 (s0 + 1)) h_4
          else
            SlS n0 2 ((n0 : ByteArray).size : Int) fun s1 =>
            CallsH Tryz.prog 43 [.string s1] h_4 fun r4 h_5 =>
            ∃ (x2 : Int), ∃ (x3 : Bool), r4 = .tuple #[.int .i64 x2, .bool x3] ∧
            (bif !x3 then
              again0 (IntKind.wrap .i64 (s0 + 1)) h_5
            else
              (bif decide ((x2 : Int) < 1) then
                again0 (IntKind.wrap .i64 (s0 + 1)) h_5
              else
                (bif decide ((x2 : Int) > 1099511627776) then
                  again0 (IntKind.wrap .i64 (s0 + 1)) h_5
                else
                  0 ≤ (0 : Int) ∧ (0 : Int) < ((n0 : ByteArray).size : Int) ∧
                  (bif ((bt n0 0) : Int) == 100 then
                    Ld h_5 ((Addr.mk b2 0 none).add 2) fun v1 => DM v1 fun x4 =>
                    RunU Tryz.prog (Instr.mapUpdate 84 (.map x4) (.int .i64 x2) (.agg #[])) h_5 fun h_6 =>
                    again0 (IntKind.wrap .i64 (s0 + 1)) h_6
                  else
                    (bif ((bt n0 0) : Int) == 110 then
                      Ld h_5 ((Addr.mk b2 0 none).add 3) fun v2 => DM v2 fun x5 =>
                      RunU Tryz.prog (Instr.mapUpdate 84 (.map x5) (.int .i64 x2) (.agg #[])) h_5 fun h_7 =>
                      again0 (IntKind.wrap .i64 (s0 + 1)) h_7
                    else
                      again0 (IntKind.wrap .i64 (s0 + 1)) h_5)))))))
      else
        Q (.tuple #[.pointer (some (Addr.mk b2 0 none)), .int .i64 0]) h_4)) 0 h_3)
theorem F9_eq : (fun (f0 : Option Addr) (dir0 : ByteArray) (h : Heap) (Q : Value → Heap → Prop) => fnPT Tryz.prog Tryz.f9 (fun i => bif Nat.beq i 0 then annOne 30 (codI .i64) else annNil) (fun _ => []) (fun _ => none) [.pointer f0, .string dir0] h Q) = F9 := by kernel_rfl
theorem F9_ok {f0 : Option Addr} {dir0 : ByteArray} {h : Heap} {Q : Value → Heap → Prop} (H : F9 f0 dir0 h Q) : CallsH Tryz.prog 9 [.pointer f0, .string dir0] h Q :=
  callsH_of (ann := fun i => bif Nat.beq i 0 then annOne 30 (codI .i64) else annNil) (tys := fun _ => []) (pl := fun _ => none) Tryz.func9 (by kernel_rfl) (by have e := F9_eq; exact (congrFun (congrFun (congrFun (congrFun (e) f0) dir0) h) Q).symm ▸ H)

/-- (*headgate/state.Store).Commit -/
def F10 (s0 : Option Addr) (v0 : Int) (was0 : Option Addr) (now0 : Option Addr) (h : Heap) (Q : Value → Heap → Prop) : Prop :=
  CallsH Tryz.prog 44 [.pointer s0, .int .i64 v0] h fun r0 h_0 =>
  DI .i64 r0 fun e0 =>
  (bif (e0 : Int) != 0 then
    Q (.int .i64 e0) h_0
  else
    CallsH Tryz.prog 18 [.pointer was0, .pointer now0] h_0 fun r1 h_1 =>
    DSl r1 fun x0a x0l x0c =>
    LoopH (fun again0 (s1 : Sl × Int) h_2 =>
      (bif decide ((s1.2 : Int) < (x0l : Int)) then
        IdxA x0a x0l s1.2 3 fun a0 =>
        Ld h_2 (a0.add 0) fun c0 =>
        Ld h_2 (a0.add 1) fun c1 =>
        Ld h_2 (a0.add 2) fun c2 =>
        ∃ (x1 : ByteArray), ∃ (x2 : ByteArray), ∃ (x3 : Bool), (Value.agg #[c0, c1, c2]) = .agg #[.string x1, .string x2, .bool x3] ∧
        Al h_2 (.cells #[.string .empty, .string .empty, .bool false] 103) fun b0 h_3 =>
        StC h_3 ((Addr.mk b0 0 none).add 0) (.string x1) fun h_5 =>
        StC h_5 ((Addr.mk b0 0 none).add 1) (.string x2) fun h_6 =>
        StC h_6 ((Addr.mk b0 0 none).add 2) (.bool x3) fun h_7 =>
        Ld h_7 ((Addr.mk b0 0 none).add 0) fun v1 => DS v1 fun x4 =>
        (⟨#[43]⟩ : ByteArray).size + (x4 : ByteArray).size ≤ 9223372036854775807 ∧
        Ld h_7 ((Addr.mk b0 0 none).add 1) fun v2 => DS v2 fun x5 =>
        Al h_7 (.cells #[.string .empty, .string .empty] 50) fun b1 h_8 =>
        StC h_8 ((Addr.mk b1 0 none).add 0) (.string (⟨#[43]⟩ ++ x4)) fun h_10 =>
        StC h_10 ((Addr.mk b1 0 none).add 1) (.string x5) fun h_11 =>
        Ld h_11 ((Addr.mk b0 0 none).add 2) fun v3 => DB v3 fun x6 =>
        (bif x6 then
          Ld h_11 ((Addr.mk b0 0 none).add 0) fun v4 => DS v4 fun x7 =>
          (⟨#[45]⟩ : ByteArray).size + (x7 : ByteArray).size ≤ 9223372036854775807 ∧
          StC h_11 ((Addr.mk b1 0 none).add 0) (.string (⟨#[45]⟩ ++ x7)) fun h_13 =>
          StC h_13 ((Addr.mk b1 0 none).add 1) (.string .empty) fun h_14 =>
          Ld h_14 ((Addr.mk b1 0 none).add 0) fun c3 =>
          Ld h_14 ((Addr.mk b1 0 none).add 1) fun c4 =>
          ∃ (x8 : ByteArray), ∃ (x9 : ByteArray), (Value.agg #[c3, c4]) = .agg #[.string x8, .string x9] ∧
          Al h_14 (.cells #[.string x8, .string x9] 50) fun b2 h_15 =>
          RunH Tryz.prog (Builtin.append_ #[41, 41] 41 #[.slice s1.1.a s1.1.l s1.1.c, .slice (some (Addr.mk b2 0 none)) 1 1]) h_15 fun r8 h_16 =>
          DSl r8 fun l_0a l_0l l_0c =>
          again0 (⟨l_0a, l_0l, l_0c⟩, IntKind.wrap .i64 (s1.2 + 1)) h_16
        else
          Ld h_11 ((Addr.mk b1 0 none).add 0) fun c5 =>
          Ld h_11 ((Addr.mk b1 0 none).add 1) fun c6 =>
          ∃ (x10 : ByteArray), ∃ (x11 : ByteArray), (Value.agg #[c5, c6]) = .agg #[.string x10, .string x11] ∧
          Al h_11 (.cells #[.string x10, .string x11] 50) fun b3 h_17 =>
          RunH Tryz.prog (Builtin.append_ #[41, 41] 41 #[.slice s1.1.a s1.1.l s1.1.c, .slice (some (Addr.mk b3 0 none)) 1 1]) h_17 fun r10 h_18 =>
          DSl r10 fun l_1a l_1l l_1c =>
          again0 (⟨l_1a, l_1l, l_1c⟩, IntKind.wrap .i64 (s1.2 + 1)) h_18)
      else
        NN' s0 fun a1 =>
        Ld h_2 (a1.add 2) fun v5 => DM v5 fun x12 =>
        CallsH Tryz.prog 45 [.pointer s0, .map x12, .string ⟨#[100]⟩, .int .i64 v0, .slice s1.1.a s1.1.l s1.1.c] h_2 fun r11 h_19 =>
        DI .i64 r11 fun x13 =>
        Q (.int .i64 x13) h_19)) (⟨none, 0, 0⟩, 0) h_1)
theorem F10_eq : (fun (s0 : Option Addr) (v0 : Int) (was0 : Option Addr) (now0 : Option Addr) (h : Heap) (Q : Value → Heap → Prop) => fnPT Tryz.prog Tryz.f10 (fun i => bif Nat.beq i 0 then annCons 10 (codSl) (annOne 24 (codI .i64)) else annNil) (fun _ => []) (fun _ => none) [.pointer s0, .int .i64 v0, .pointer was0, .pointer now0] h Q) = F10 := by kernel_rfl
theorem F10_ok {s0 : Option Addr} {v0 : Int} {was0 : Option Addr} {now0 : Option Addr} {h : Heap} {Q : Value → Heap → Prop} (H : F10 s0 v0 was0 now0 h Q) : CallsH Tryz.prog 10 [.pointer s0, .int .i64 v0, .pointer was0, .pointer now0] h Q :=
  callsH_of (ann := fun i => bif Nat.beq i 0 then annCons 10 (codSl) (annOne 24 (codI .i64)) else annNil) (tys := fun _ => []) (pl := fun _ => none) Tryz.func10 (by kernel_rfl) (by have e := F10_eq; exact (congrFun (congrFun (congrFun (congrFun (congrFun (congrFun (e) s0) v0) was0) now0) h) Q).symm ▸ H)

/-- (*headgate/state.Store).Snap -/
def F11 (s0 : Option Addr) (v0 : Int) (h : Heap) (Q : Value → Heap → Prop) : Prop :=
  CallsH Tryz.prog 44 [.pointer s0, .int .i64 v0] h fun r0 h_0 =>
  DI .i64 r0 fun e0 =>
  (bif (e0 : Int) != 0 then
    Q (.int .i64 e0) h_0
  else
    NN' s0 fun a0 =>
    Ld h_0 (a0.add 3) fun v1 => DM v1 fun x0 =>
    ∃ es0, mapEs h_0 x0 es0 ∧ ∃ f0, Instr.findNow (.int .i64) (.int .i64 v0) (es0 : Array MapEntry).toList 0 = some f0 ∧
    ((Option.map (fun x => x.2) f0).getD (.agg #[])) = .agg #[] ∧
    Al h_0 (.cells #[] 81) fun b0 h_1 =>
    (bif Option.isSome f0 then
      Q (.int .i64 0) h_1
    else
      CallsH Tryz.prog 8 [.pointer s0, .int .i64 v0] h_1 fun r3 h_3 =>
      ∃ (x1 : Option Addr), ∃ (x2 : Int), r3 = .tuple #[.pointer x1, .int .i64 x2] ∧
      (bif (x2 : Int) != 0 then
        Q (.int .i64 x2) h_3
      else
        Al h_3 (.cells #[.slice none 0 0] 41) fun b1 h_4 =>
        CallsH Tryz.prog 46 [.pointer x1] h_4 fun r5 h_5 =>
        ∃ (x3 : Value), r5 = x3 ∧
        RangeFn Tryz.prog x3 2 none h_5 (fun l_0 rec_0 args0 h_6 Q_0 =>
          ∃ (y0 : ByteArray), ∃ (y1 : ByteArray), args0 = [.string y0, .string y1] ∧
          h_6[l_0]? = some (rec_0 .ready none) ∧
          Ld (h_6.setIfInBounds l_0 (rec_0 .busy none)) (Addr.mk b1 0 none) fun v2 => DSl v2 fun x4a x4l x4c =>
          Al (h_6.setIfInBounds l_0 (rec_0 .busy none)) (.cells #[.string y0, .string y1] 50) fun b2 h_7 =>
          RunH Tryz.prog (Builtin.append_ #[41, 41] 41 #[.slice x4a x4l x4c, .slice (some (Addr.mk b2 0 none)) 1 1]) h_7 fun r7 h_8 =>
          DSl r7 fun x5a x5l x5c =>
          StC h_8 ((Addr.mk b1 0 none).add 0) (.slice x5a x5l x5c) fun h_10 =>
          h_10[l_0]? = some (rec_0 .busy none) ∧ Q_0 (.bool true) (h_10.setIfInBounds l_0 (rec_0 .ready none))) (fun pend0 h_11 =>
          pend0 = none ∧
          NN' s0 fun a1 =>
          Ld h_11 (a1.add 3) fun v3 => DM v3 fun x6 =>
          Ld h_11 (Addr.mk b1 0 none) fun v4 => DSl v4 fun x7a x7l x7c =>
          CallsH Tryz.prog 45 [.pointer s0, .map x6, .string ⟨#[110]⟩, .int .i64 v0, .slice x7a x7l x7c] h_11 fun r9 h_12 =>
          DI .i64 r9 fun x8 =>
          h_12[h_5.size]? = some (.deferred (some [])) ∧
          Q (.int .i64 x8) (h_12.setIfInBounds h_5.size (.deferred none))))))
theorem F11_eq : (fun (s0 : Option Addr) (v0 : Int) (h : Heap) (Q : Value → Heap → Prop) => fnPT Tryz.prog Tryz.f11 (fun _ => annNil) (fun i => bif Nat.beq i 0 then [9, 9] else []) (fun i => bif Nat.beq i 15 then some ⟨[0, 0, 2, 6, 14, 0, 0, 127, 255], 128⟩ else none) [.pointer s0, .int .i64 v0] h Q) = F11 := by kernel_rfl
theorem F11_ok {s0 : Option Addr} {v0 : Int} {h : Heap} {Q : Value → Heap → Prop} (H : F11 s0 v0 h Q) : CallsH Tryz.prog 11 [.pointer s0, .int .i64 v0] h Q :=
  callsH_of (ann := fun _ => annNil) (tys := fun i => bif Nat.beq i 0 then [9, 9] else []) (pl := fun i => bif Nat.beq i 15 then some ⟨[0, 0, 2, 6, 14, 0, 0, 127, 255], 128⟩ else none) Tryz.func11 (by kernel_rfl) (by have e := F11_eq; exact (congrFun (congrFun (congrFun (congrFun (e) s0) v0) h) Q).symm ▸ H)

/-- (*headgate/state.Store).Drop -/
def F12 (s0 : Option Addr) (below0 : Int) (h : Heap) (Q : Value → Heap → Prop) : Prop :=
  Al h (.cells #[.pointer s0] 23) fun b0 h_0 =>
  Ld h_0 (Addr.mk b0 0 none) fun v0 => DP v0 fun x0 =>
  (bif (x0).isNone then
    Q (.int .i64 1) h_0
  else
    Ld h_0 (Addr.mk b0 0 none) fun v1 => DP v1 fun x1 =>
    CallsH Tryz.prog 33 [.pointer x1, .int .i64 below0] h_0 fun r1 h_1 =>
    DI .i64 r1 fun x2 =>
    Al h_1 (.cells #[.int .i64 0] 2) fun b1 h_2 =>
    StC h_2 ((Addr.mk b1 0 none).add 0) (.int .i64 x2) fun h_4 =>
    Ld h_4 (Addr.mk b1 0 none) fun v2 => DI .i64 v2 fun x3 =>
    (bif (x3 : Int) == 0 then
      Q (.int .i64 0) h_4
    else
      Al h_4 (.cells #[.bool false] 4) fun b2 h_5 =>
      StC h_5 ((Addr.mk b2 0 none).add 0) (.bool false) fun h_7 =>
      Ld h_7 (Addr.mk b0 0 none) fun v3 => DP v3 fun x4 =>
      NN' x4 fun a0 =>
      Ld h_7 (a0.add 2) fun v4 => DM v4 fun x5 =>
      CallsH Tryz.prog 47 [.map x5, .string ⟨#[100]⟩, .func (.func 51) #[] #[.pointer (some (Addr.mk b1 0 none))], .pointer (some (Addr.mk b0 0 none)), .pointer (some (Addr.mk b2 0 none))] h_7 fun r6 h_8 =>
      DI .i64 r6 fun e0 =>
      (bif (e0 : Int) != 0 then
        Q (.int .i64 e0) h_8
      else
        Ld h_8 (Addr.mk b0 0 none) fun v5 => DP v5 fun x6 =>
        NN' x6 fun a1 =>
        Ld h_8 (a1.add 3) fun v6 => DM v6 fun x7 =>
        CallsH Tryz.prog 47 [.map x7, .string ⟨#[110]⟩, .func (.func 52) #[] #[.pointer (some (Addr.mk b1 0 none))], .pointer (some (Addr.mk b0 0 none)), .pointer (some (Addr.mk b2 0 none))] h_8 fun r7 h_9 =>
        DI .i64 r7 fun e1 =>
        (bif (e1 : Int) != 0 then
          Q (.int .i64 e1) h_9
        else
          Ld h_9 (Addr.mk b2 0 none) fun v7 => DB v7 fun x8 =>
          (bif !x8 then
            Q (.int .i64 0) h_9
          else
            Ld h_9 (Addr.mk b0 0 none) fun v8 => DP v8 fun x9 =>
            NN' x9 fun a2 =>
            Ld h_9 (a2.add 0) fun v9 => DP v9 fun x10 =>
            Ld h_9 (Addr.mk b0 0 none) fun v10 => DP v10 fun x11 =>
            NN' x11 fun a3 =>
            Ld h_9 (a3.add 1) fun v11 => DS v11 fun x12 =>
            CallsH Tryz.prog 53 [.pointer x10, .string x12] h_9 fun r8 h_10 =>
            DI .i64 r8 fun x13 =>
            Q (.int .i64 x13) h_10)))))
theorem F12_eq : (fun (s0 : Option Addr) (below0 : Int) (h : Heap) (Q : Value → Heap → Prop) => fnPT Tryz.prog Tryz.f12 (fun _ => annNil) (fun _ => []) (fun i => bif Nat.beq i 16 then some ⟨[0, 1, 3, 7, 0, 16, 48, 112, 255, 511], 256⟩ else none) [.pointer s0, .int .i64 below0] h Q) = F12 := by kernel_rfl
theorem F12_ok {s0 : Option Addr} {below0 : Int} {h : Heap} {Q : Value → Heap → Prop} (H : F12 s0 below0 h Q) : CallsH Tryz.prog 12 [.pointer s0, .int .i64 below0] h Q :=
  callsH_of (ann := fun _ => annNil) (tys := fun _ => []) (pl := fun i => bif Nat.beq i 16 then some ⟨[0, 1, 3, 7, 0, 16, 48, 112, 255, 511], 256⟩ else none) Tryz.func12 (by kernel_rfl) (by have e := F12_eq; exact (congrFun (congrFun (congrFun (congrFun (e) s0) below0) h) Q).symm ▸ H)

/-- (*headgate/state.Store).Files -/
def F13 (s0 : Option Addr) (h : Heap) (Q : Value → Heap → Prop) : Prop :=
  (bif (s0).isNone then
    Q (.int .i64 0) h
  else
    NN' s0 fun a0 =>
    Ld h (a0.add 2) fun v0 => DM v0 fun x0 =>
    ∃ es0, mapEs h x0 es0 ∧
    NN' s0 fun a1 =>
    Ld h (a1.add 3) fun v1 => DM v1 fun x1 =>
    ∃ es1, mapEs h x1 es1 ∧
    Q (.int .i64 (IntKind.wrap .i64 (((es0 : Array MapEntry).size : Int) + ((es1 : Array MapEntry).size : Int)))) h)
theorem F13_eq : (fun (s0 : Option Addr) (h : Heap) (Q : Value → Heap → Prop) => fnPT Tryz.prog Tryz.f13 (fun _ => annNil) (fun _ => []) (fun _ => none) [.pointer s0] h Q) = F13 := by kernel_rfl
theorem F13_ok {s0 : Option Addr} {h : Heap} {Q : Value → Heap → Prop} (H : F13 s0 h Q) : CallsH Tryz.prog 13 [.pointer s0] h Q :=
  callsH_of (ann := fun _ => annNil) (tys := fun _ => []) (pl := fun _ => none) Tryz.func13 (by kernel_rfl) (by have e := F13_eq; exact (congrFun (congrFun (congrFun (e) s0) h) Q).symm ▸ H)

/-- headgate/headgatelaw18.Of -/
def F15 (l_0a : Option Addr) (l_0l : Nat) (l_0c : Nat) (h : Heap) (Q : Value → Heap → Prop) : Prop :=
  CallsH Tryz.prog 34 [.slice none 0 0] h fun r0 h_0 =>
  DP r0 fun t0 =>
  LoopH (fun again0 (s0 : Int) h_1 =>
    (bif decide ((s0 : Int) < (l_0l : Int)) then
      IdxA l_0a l_0l s0 2 fun a0 =>
      Ld h_1 (a0.add 0) fun v0 => DS v0 fun x0 =>
      IdxA l_0a l_0l s0 2 fun a1 =>
      Ld h_1 (a1.add 1) fun v1 => DS v1 fun x1 =>
      CallsH Tryz.prog 39 [.pointer t0, .string x0, .string x1] h_1 fun r1 h_2 =>
      r1 = .tuple #[] ∧
      again0 (IntKind.wrap .i64 (s0 + 1)) h_2
    else
      Q (.pointer t0) h_1)) 0 h_0
theorem F15_eq : (fun (l_0a : Option Addr) (l_0l : Nat) (l_0c : Nat) (h : Heap) (Q : Value → Heap → Prop) => fnPT Tryz.prog Tryz.f15 (fun i => bif Nat.beq i 0 then annOne 4 (codI .i64) else annNil) (fun _ => []) (fun i => bif Nat.beq i 5 then some ⟨[0, 0, 0, 6, 14, 30, 0, 0, 192, 448, 960, 2047], 2048⟩ else none) [.slice l_0a l_0l l_0c] h Q) = F15 := by kernel_rfl
theorem F15_ok {l_0a : Option Addr} {l_0l : Nat} {l_0c : Nat} {h : Heap} {Q : Value → Heap → Prop} (H : F15 l_0a l_0l l_0c h Q) : CallsH Tryz.prog 15 [.slice l_0a l_0l l_0c] h Q :=
  callsH_of (ann := fun i => bif Nat.beq i 0 then annOne 4 (codI .i64) else annNil) (tys := fun _ => []) (pl := fun i => bif Nat.beq i 5 then some ⟨[0, 0, 0, 6, 14, 30, 0, 0, 192, 448, 960, 2047], 2048⟩ else none) Tryz.func15 (by kernel_rfl) (by have e := F15_eq; exact (congrFun (congrFun (congrFun (congrFun (congrFun (e) l_0a) l_0l) l_0c) h) Q).symm ▸ H)

/-- headgate/headgatelaw18.big -/
def F16 (l_0a : Option Addr) (l_0l : Nat) (l_0c : Nat) (h : Heap) (Q : Value → Heap → Prop) : Prop :=
  (bif decide (((l_0l : Int) : Int) > 60) then
    Q (.bool true) h
  else
    LoopH (fun again0 (s0 : Int) h_0 =>
      (bif decide ((s0 : Int) < (l_0l : Int)) then
        IdxA l_0a l_0l s0 2 fun a0 =>
        Ld h_0 (a0.add 0) fun v0 => DS v0 fun x0 =>
        IdxA l_0a l_0l s0 2 fun a1 =>
        Ld h_0 (a1.add 1) fun v1 => DS v1 fun x1 =>
        (bif decide (((IntKind.wrap .i64 (((x0 : ByteArray).size : Int) + ((x1 : ByteArray).size : Int))) : Int) > 300) then
          Q (.bool true) h_0
        else
          again0 (IntKind.wrap .i64 (s0 + 1)) h_0)
      else
        Q (.bool false) h_0)) 0 h)
theorem F16_eq : (fun (l_0a : Option Addr) (l_0l : Nat) (l_0c : Nat) (h : Heap) (Q : Value → Heap → Prop) => fnPT Tryz.prog Tryz.f16 (fun i => bif Nat.beq i 0 then annOne 3 (codI .i64) else annNil) (fun _ => []) (fun _ => none) [.slice l_0a l_0l l_0c] h Q) = F16 := by kernel_rfl
theorem F16_ok {l_0a : Option Addr} {l_0l : Nat} {l_0c : Nat} {h : Heap} {Q : Value → Heap → Prop} (H : F16 l_0a l_0l l_0c h Q) : CallsH Tryz.prog 16 [.slice l_0a l_0l l_0c] h Q :=
  callsH_of (ann := fun i => bif Nat.beq i 0 then annOne 3 (codI .i64) else annNil) (tys := fun _ => []) (pl := fun _ => none) Tryz.func16 (by kernel_rfl) (by have e := F16_eq; exact (congrFun (congrFun (congrFun (congrFun (congrFun (e) l_0a) l_0l) l_0c) h) Q).symm ▸ H)

/-- headgate/headgatelaw18.rising -/
def F17 (l_0a : Option Addr) (l_0l : Nat) (l_0c : Nat) (h : Heap) (Q : Value → Heap → Prop) : Prop :=
  LoopH (fun again0 (s0 : Sl × Int) h_0 =>
    (bif decide ((s0.2 : Int) < (l_0l : Int)) then
      IdxA l_0a l_0l s0.2 2 fun a0 =>
      Ld h_0 (a0.add 0) fun v0 => DS v0 fun x0 =>
      IdxA l_0a l_0l s0.2 2 fun a1 =>
      Ld h_0 (a1.add 1) fun v1 => DS v1 fun x1 =>
      CallsH Tryz.prog 54 [.slice s0.1.a s0.1.l s0.1.c, .string x0, .string x1] h_0 fun r0 h_1 =>
      DSl r0 fun out0a out0l out0c =>
      again0 (⟨out0a, out0l, out0c⟩, IntKind.wrap .i64 (s0.2 + 1)) h_1
    else
      Q (.slice s0.1.a s0.1.l s0.1.c) h_0)) (⟨none, 0, 0⟩, 0) h
theorem F17_eq : (fun (l_0a : Option Addr) (l_0l : Nat) (l_0c : Nat) (h : Heap) (Q : Value → Heap → Prop) => fnPT Tryz.prog Tryz.f17 (fun i => bif Nat.beq i 0 then annCons 3 (codSl) (annOne 4 (codI .i64)) else annNil) (fun _ => []) (fun i => bif Nat.beq i 5 then some ⟨[0, 0, 0, 6, 14, 30, 0, 0, 192, 448, 960, 2047, 4095], 2048⟩ else none) [.slice l_0a l_0l l_0c] h Q) = F17 := by kernel_rfl
theorem F17_ok {l_0a : Option Addr} {l_0l : Nat} {l_0c : Nat} {h : Heap} {Q : Value → Heap → Prop} (H : F17 l_0a l_0l l_0c h Q) : CallsH Tryz.prog 17 [.slice l_0a l_0l l_0c] h Q :=
  callsH_of (ann := fun i => bif Nat.beq i 0 then annCons 3 (codSl) (annOne 4 (codI .i64)) else annNil) (tys := fun _ => []) (pl := fun i => bif Nat.beq i 5 then some ⟨[0, 0, 0, 6, 14, 30, 0, 0, 192, 448, 960, 2047, 4095], 2048⟩ else none) Tryz.func17 (by kernel_rfl) (by have e := F17_eq; exact (congrFun (congrFun (congrFun (congrFun (congrFun (e) l_0a) l_0l) l_0c) h) Q).symm ▸ H)

/-- headgate/table.Diff[string] -/
def F18 (a0 : Option Addr) (b0 : Option Addr) (h : Heap) (Q : Value → Heap → Prop) : Prop :=
  Al h (.cells #[.pointer a0] 24) fun b1 h_0 =>
  Al h_0 (.cells #[.pointer b0] 24) fun b2 h_1 =>
  Al h_1 (.cells #[.slice none 0 0] 43) fun b3 h_2 =>
  Ld h_2 (Addr.mk b2 0 none) fun v0 => DP v0 fun x0 =>
  CallsH Tryz.prog 46 [.pointer x0] h_2 fun r3 h_3 =>
  ∃ (x1 : Value), r3 = x1 ∧
  RangeFn Tryz.prog x1 2 none h_3 (fun l_0 rec_0 args0 h_4 Q_0 =>
    ∃ (y0 : ByteArray), ∃ (y1 : ByteArray), args0 = [.string y0, .string y1] ∧
    h_4[l_0]? = some (rec_0 .ready none) ∧
    Ld (h_4.setIfInBounds l_0 (rec_0 .busy none)) (Addr.mk b1 0 none) fun v1 => DP v1 fun x2 =>
    CallsH Tryz.prog 55 [.pointer x2, .string y0] (h_4.setIfInBounds l_0 (rec_0 .busy none)) fun r4 h_5 =>
    ∃ (x3 : ByteArray), ∃ (x4 : Bool), r4 = .tuple #[.string x3, .bool x4] ∧
    (bif !x4 then
      Ld h_5 (Addr.mk b3 0 none) fun v2 => DSl v2 fun x5a x5l x5c =>
      Al h_5 (.cells #[.string y0, .string y1, .bool false] 103) fun b4 h_6 =>
      RunH Tryz.prog (Builtin.append_ #[43, 43] 43 #[.slice x5a x5l x5c, .slice (some (Addr.mk b4 0 none)) 1 1]) h_6 fun r6 h_7 =>
      DSl r6 fun x6a x6l x6c =>
      StC h_7 ((Addr.mk b3 0 none).add 0) (.slice x6a x6l x6c) fun h_9 =>
      h_9[l_0]? = some (rec_0 .busy none) ∧ Q_0 (.bool true) (h_9.setIfInBounds l_0 (rec_0 .ready none))
    else
      (bif !strEq x3 y1 then
        Ld h_5 (Addr.mk b3 0 none) fun v3 => DSl v3 fun x7a x7l x7c =>
        Al h_5 (.cells #[.string y0, .string y1, .bool false] 103) fun b5 h_10 =>
        RunH Tryz.prog (Builtin.append_ #[43, 43] 43 #[.slice x7a x7l x7c, .slice (some (Addr.mk b5 0 none)) 1 1]) h_10 fun r9 h_11 =>
        DSl r9 fun x8a x8l x8c =>
        StC h_11 ((Addr.mk b3 0 none).add 0) (.slice x8a x8l x8c) fun h_13 =>
        h_13[l_0]? = some (rec_0 .busy none) ∧ Q_0 (.bool true) (h_13.setIfInBounds l_0 (rec_0 .ready none))
      else
        h_5[l_0]? = some (rec_0 .busy none) ∧ Q_0 (.bool true) (h_5.setIfInBounds l_0 (rec_0 .ready none))))) (fun pend0 h_14 =>
    pend0 = none ∧
    Ld h_14 (Addr.mk b1 0 none) fun v4 => DP v4 fun x9 =>
    CallsH Tryz.prog 46 [.pointer x9] h_14 fun r11 h_15 =>
    ∃ (x10 : Value), r11 = x10 ∧
    RangeFn Tryz.prog x10 2 none h_15 (fun l_1 rec_1 args1 h_16 Q_1 =>
      ∃ (y2 : ByteArray), ∃ (y3 : ByteArray), args1 = [.string y2, .string y3] ∧
      h_16[l_1]? = some (rec_1 .ready none) ∧
      Ld (h_16.setIfInBounds l_1 (rec_1 .busy none)) (Addr.mk b2 0 none) fun v5 => DP v5 fun x11 =>
      CallsH Tryz.prog 55 [.pointer x11, .string y2] (h_16.setIfInBounds l_1 (rec_1 .busy none)) fun r12 h_17 =>
      ∃ (x12 : ByteArray), ∃ (x13 : Bool), r12 = .tuple #[.string x12, .bool x13] ∧
      (bif !x13 then
        Ld h_17 (Addr.mk b3 0 none) fun v6 => DSl v6 fun x14a x14l x14c =>
        Al h_17 (.cells #[.string y2, .string .empty, .bool true] 103) fun b6 h_18 =>
        RunH Tryz.prog (Builtin.append_ #[43, 43] 43 #[.slice x14a x14l x14c, .slice (some (Addr.mk b6 0 none)) 1 1]) h_18 fun r14 h_19 =>
        DSl r14 fun x15a x15l x15c =>
        StC h_19 ((Addr.mk b3 0 none).add 0) (.slice x15a x15l x15c) fun h_21 =>
        h_21[l_1]? = some (rec_1 .busy none) ∧ Q_1 (.bool true) (h_21.setIfInBounds l_1 (rec_1 .ready none))
      else
        h_17[l_1]? = some (rec_1 .busy none) ∧ Q_1 (.bool true) (h_17.setIfInBounds l_1 (rec_1 .ready none)))) (fun pend1 h_22 =>
      pend1 = none ∧
      Ld h_22 (Addr.mk b3 0 none) fun v7 => DSl v7 fun x16a x16l x16c =>
      CallsH Tryz.prog 56 [.slice x16a x16l x16c, .func (.func 57) #[] #[]] h_22 fun r16 h_23 =>
      r16 = .tuple #[] ∧
      Ld h_23 (Addr.mk b3 0 none) fun v8 => DSl v8 fun x17a x17l x17c =>
      h_23[h_15.size]? = some (.deferred (some [])) ∧
      (h_23.setIfInBounds h_15.size (.deferred none))[h_3.size]? = some (.deferred (some [])) ∧
      Q (.slice x17a x17l x17c) ((h_23.setIfInBounds h_15.size (.deferred none)).setIfInBounds h_3.size (.deferred none))))
theorem F18_eq : (fun (a0 : Option Addr) (b0 : Option Addr) (h : Heap) (Q : Value → Heap → Prop) => fnPT Tryz.prog Tryz.f18 (fun _ => annNil) (fun i => bif Nat.beq i 0 then [9, 9] else bif Nat.beq i 2 then [9, 9] else []) (fun _ => none) [.pointer a0, .pointer b0] h Q) = F18 := by kernel_rfl
theorem F18_ok {a0 : Option Addr} {b0 : Option Addr} {h : Heap} {Q : Value → Heap → Prop} (H : F18 a0 b0 h Q) : CallsH Tryz.prog 18 [.pointer a0, .pointer b0] h Q :=
  callsH_of (ann := fun _ => annNil) (tys := fun i => bif Nat.beq i 0 then [9, 9] else bif Nat.beq i 2 then [9, 9] else []) (pl := fun _ => none) Tryz.func18 (by kernel_rfl) (by have e := F18_eq; exact (congrFun (congrFun (congrFun (congrFun (e) a0) b0) h) Q).symm ▸ H)

/-- headgate/headgateref17.Same -/
def F21 (a0a : Option Addr) (a0l : Nat) (a0c : Nat) (b0a : Option Addr) (b0l : Nat) (b0c : Nat) (h : Heap) (Q : Value → Heap → Prop) : Prop :=
  (bif ((a0l : Int) : Int) != (b0l : Int) then
    Q (.bool false) h
  else
    LoopH (fun again0 (s0 : Int) h_0 =>
      (bif decide ((s0 : Int) < (a0l : Int)) then
        IdxA a0a a0l s0 2 fun a1 =>
        Ld h_0 (a1.add 0) fun c0 =>
        Ld h_0 (a1.add 1) fun c1 =>
        ∃ (x0 : ByteArray), ∃ (x1 : ByteArray), (Value.agg #[c0, c1]) = .agg #[.string x0, .string x1] ∧
        IdxA b0a b0l s0 2 fun a2 =>
        Ld h_0 (a2.add 0) fun c2 =>
        Ld h_0 (a2.add 1) fun c3 =>
        ∃ (x2 : ByteArray), ∃ (x3 : ByteArray), (Value.agg #[c2, c3]) = .agg #[.string x2, .string x3] ∧
        (bif !((strEq x0 x2) && ((strEq x1 x3) && true)) then
          Q (.bool false) h_0
        else
          again0 (IntKind.wrap .i64 (s0 + 1)) h_0)
      else
        Q (.bool true) h_0)) 0 h)
theorem F21_eq : (fun (a0a : Option Addr) (a0l : Nat) (a0c : Nat) (b0a : Option Addr) (b0l : Nat) (b0c : Nat) (h : Heap) (Q : Value → Heap → Prop) => fnPT Tryz.prog Tryz.f21 (fun i => bif Nat.beq i 0 then annOne 5 (codI .i64) else annNil) (fun _ => []) (fun _ => none) [.slice a0a a0l a0c, .slice b0a b0l b0c] h Q) = F21 := by kernel_rfl
theorem F21_ok {a0a : Option Addr} {a0l : Nat} {a0c : Nat} {b0a : Option Addr} {b0l : Nat} {b0c : Nat} {h : Heap} {Q : Value → Heap → Prop} (H : F21 a0a a0l a0c b0a b0l b0c h Q) : CallsH Tryz.prog 21 [.slice a0a a0l a0c, .slice b0a b0l b0c] h Q :=
  callsH_of (ann := fun i => bif Nat.beq i 0 then annOne 5 (codI .i64) else annNil) (tys := fun _ => []) (pl := fun _ => none) Tryz.func21 (by kernel_rfl) (by have e := F21_eq; exact (congrFun (congrFun (congrFun (congrFun (congrFun (congrFun (congrFun (congrFun (e) a0a) a0l) a0c) b0a) b0l) b0c) h) Q).symm ▸ H)

/-- headgate/headgatelaw18.Pairs -/
def F22 (t0 : Option Addr) (h : Heap) (Q : Value → Heap → Prop) : Prop :=
  Al h (.cells #[.slice none 0 0] 41) fun b0 h_0 =>
  CallsH Tryz.prog 46 [.pointer t0] h_0 fun r1 h_1 =>
  ∃ (x0 : Value), r1 = x0 ∧
  RangeFn Tryz.prog x0 2 none h_1 (fun l_0 rec_0 args0 h_2 Q_0 =>
    ∃ (y0 : ByteArray), ∃ (y1 : ByteArray), args0 = [.string y0, .string y1] ∧
    h_2[l_0]? = some (rec_0 .ready none) ∧
    Ld (h_2.setIfInBounds l_0 (rec_0 .busy none)) (Addr.mk b0 0 none) fun v0 => DSl v0 fun x1a x1l x1c =>
    Al (h_2.setIfInBounds l_0 (rec_0 .busy none)) (.cells #[.string y0, .string y1] 50) fun b1 h_3 =>
    RunH Tryz.prog (Builtin.append_ #[41, 41] 41 #[.slice x1a x1l x1c, .slice (some (Addr.mk b1 0 none)) 1 1]) h_3 fun r3 h_4 =>
    DSl r3 fun x2a x2l x2c =>
    StC h_4 ((Addr.mk b0 0 none).add 0) (.slice x2a x2l x2c) fun h_6 =>
    h_6[l_0]? = some (rec_0 .busy none) ∧ Q_0 (.bool true) (h_6.setIfInBounds l_0 (rec_0 .ready none))) (fun pend0 h_7 =>
    pend0 = none ∧
    Ld h_7 (Addr.mk b0 0 none) fun v1 => DSl v1 fun x3a x3l x3c =>
    h_7[h_1.size]? = some (.deferred (some [])) ∧
    Q (.slice x3a x3l x3c) (h_7.setIfInBounds h_1.size (.deferred none)))
theorem F22_eq : (fun (t0 : Option Addr) (h : Heap) (Q : Value → Heap → Prop) => fnPT Tryz.prog Tryz.f22 (fun _ => annNil) (fun i => bif Nat.beq i 0 then [9, 9] else []) (fun _ => none) [.pointer t0] h Q) = F22 := by kernel_rfl
theorem F22_ok {t0 : Option Addr} {h : Heap} {Q : Value → Heap → Prop} (H : F22 t0 h Q) : CallsH Tryz.prog 22 [.pointer t0] h Q :=
  callsH_of (ann := fun _ => annNil) (tys := fun i => bif Nat.beq i 0 then [9, 9] else []) (pl := fun _ => none) Tryz.func22 (by kernel_rfl) (by have e := F22_eq; exact (congrFun (congrFun (congrFun (e) t0) h) Q).symm ▸ H)

/-- (*headgate/state.Store).near -/
def F33 (s0 : Option Addr) (v0 : Int) (h : Heap) (Q : Value → Heap → Prop) : Prop :=
  NN' s0 fun a0 =>
  Ld h (a0.add 3) fun v1 => DM v1 fun x0 =>
  RunH Tryz.prog (Instr.range 84 (.map x0)) h fun r0 h_0 =>
  DP r0 fun p0 =>
  LoopH (fun again0 (s1 : Int) h_1 =>
    RunH Tryz.prog (Instr.next (.pointer p0) false 0) h_1 fun r1 h_2 =>
    (
      r1 = .tuple #[.bool false] ∧
      Q (.int .i64 s1) h_2) ∨ (
      ∃ (k0 x1 : Value), r1 = .tuple #[.bool true, k0, x1] ∧
      RunH Tryz.prog (Instr.entry (.pointer p0)) h_2 fun r2 h_3 =>
      ∃ (x2 : Int), ∃ (x3 : Value), r2 = .tuple #[.int .i64 x2, x3] ∧
      (bif decide ((x2 : Int) ≤ v0) then
        again0 (if (x2 : Int) > s1 then x2 else s1) h_3
      else
        again0 s1 h_3))) 0 h_0
theorem F33_eq : (fun (s0 : Option Addr) (v0 : Int) (h : Heap) (Q : Value → Heap → Prop) => fnPT Tryz.prog Tryz.f33 (fun i => bif Nat.beq i 0 then annOne 5 (codI .i64) else annNil) (fun i => bif Nat.beq i 1004 then [2, 0] else []) (fun _ => none) [.pointer s0, .int .i64 v0] h Q) = F33 := by kernel_rfl
theorem F33_ok {s0 : Option Addr} {v0 : Int} {h : Heap} {Q : Value → Heap → Prop} (H : F33 s0 v0 h Q) : CallsH Tryz.prog 33 [.pointer s0, .int .i64 v0] h Q :=
  callsH_of (ann := fun i => bif Nat.beq i 0 then annOne 5 (codI .i64) else annNil) (tys := fun i => bif Nat.beq i 1004 then [2, 0] else []) (pl := fun _ => none) Tryz.func33 (by kernel_rfl) (by have e := F33_eq; exact (congrFun (congrFun (congrFun (congrFun (e) s0) v0) h) Q).symm ▸ H)

/-- headgate/table.New[string] -/
def F34 (l_0a : Option Addr) (l_0l : Nat) (l_0c : Nat) (h : Heap) (Q : Value → Heap → Prop) : Prop :=
  Al h (.map #[] 0) fun b0 h_0 =>
  Al h_0 (.cells #[.map (some b0), .slice none 0 0, .bool false] 177) fun b1 h_1 =>
  LoopH (fun again0 (s0 : Int) h_2 =>
    (bif decide ((s0 : Int) < (l_0l : Int)) then
      IdxA l_0a l_0l s0 2 fun a0 =>
      Ld h_2 (a0.add 0) fun c0 =>
      Ld h_2 (a0.add 1) fun c1 =>
      ∃ (x0 : ByteArray), ∃ (x1 : ByteArray), (Value.agg #[c0, c1]) = .agg #[.string x0, .string x1] ∧
      Al h_2 (.cells #[.string .empty, .string .empty] 178) fun b2 h_3 =>
      StC h_3 ((Addr.mk b2 0 none).add 0) (.string x0) fun h_5 =>
      StC h_5 ((Addr.mk b2 0 none).add 1) (.string x1) fun h_6 =>
      Ld h_6 ((Addr.mk b1 0 none).add 0) fun v0 => DM v0 fun x2 =>
      Ld h_6 ((Addr.mk b2 0 none).add 0) fun v1 => DS v1 fun x3 =>
      Ld h_6 ((Addr.mk b2 0 none).add 1) fun v2 => DS v2 fun x4 =>
      RunU Tryz.prog (Instr.mapUpdate 175 (.map x2) (.string x3) (.string x4)) h_6 fun h_7 =>
      again0 (IntKind.wrap .i64 (s0 + 1)) h_7
    else
      Q (.pointer (some (Addr.mk b1 0 none))) h_2)) 0 h_1
theorem F34_eq : (fun (l_0a : Option Addr) (l_0l : Nat) (l_0c : Nat) (h : Heap) (Q : Value → Heap → Prop) => fnPT Tryz.prog Tryz.f34 (fun i => bif Nat.beq i 0 then annOne 11 (codI .i64) else annNil) (fun _ => []) (fun i => bif Nat.beq i 5 then some ⟨[0, 1, 3, 7, 0, 16, 0, 64, 255], 256⟩ else none) [.slice l_0a l_0l l_0c] h Q) = F34 := by kernel_rfl
theorem F34_ok {l_0a : Option Addr} {l_0l : Nat} {l_0c : Nat} {h : Heap} {Q : Value → Heap → Prop} (H : F34 l_0a l_0l l_0c h Q) : CallsH Tryz.prog 34 [.slice l_0a l_0l l_0c] h Q :=
  callsH_of (ann := fun i => bif Nat.beq i 0 then annOne 11 (codI .i64) else annNil) (tys := fun _ => []) (pl := fun i => bif Nat.beq i 5 then some ⟨[0, 1, 3, 7, 0, 16, 0, 64, 255], 256⟩ else none) Tryz.func34 (by kernel_rfl) (by have e := F34_eq; exact (congrFun (congrFun (congrFun (congrFun (congrFun (e) l_0a) l_0l) l_0c) h) Q).symm ▸ H)

/-- (*headgate/state.Store).pairs -/
def F35 (s0 : Option Addr) (name0 : ByteArray) (h : Heap) (Q : Value → Heap → Prop) : Prop :=
  NN' s0 fun a0 =>
  Ld h (a0.add 0) fun v0 => DP v0 fun x0 =>
  NN' s0 fun a1 =>
  Ld h (a1.add 1) fun v1 => DS v1 fun x1 =>
  CallsH Tryz.prog 104 [.pointer x0, .string x1, .string name0] h fun r0 h_0 =>
  ∃ (x2a : Option Addr), ∃ (x2l : Nat), ∃ (x2c : Nat), ∃ (x3 : Int), r0 = .tuple #[.slice x2a x2l x2c, .int .i64 x3] ∧
  (bif (x3 : Int) != 0 then
    Q (.tuple #[.slice none 0 0, .int .i64 x3]) h_0
  else
    CallsH Tryz.prog 105 [.slice x2a x2l x2c] h_0 fun r1 h_1 =>
    ∃ (x4a : Option Addr), ∃ (x4l : Nat), ∃ (x4c : Nat), ∃ (x5 : Int), r1 = .tuple #[.slice x4a x4l x4c, .int .i64 x5] ∧
    (bif (x5 : Int) != 0 then
      Q (.tuple #[.slice none 0 0, .int .i64 181]) h_1
    else
      Q (.tuple #[.slice x4a x4l x4c, .int .i64 0]) h_1))
theorem F35_eq : (fun (s0 : Option Addr) (name0 : ByteArray) (h : Heap) (Q : Value → Heap → Prop) => fnPT Tryz.prog Tryz.f35 (fun _ => annNil) (fun _ => []) (fun i => bif Nat.beq i 1 then some ⟨[0, 1, 3, 7, 0, 16, 48, 112, 0, 511, 1023, 2047, 2047, 4095, 16383], 512⟩ else none) [.pointer s0, .string name0] h Q) = F35 := by kernel_rfl
theorem F35_ok {s0 : Option Addr} {name0 : ByteArray} {h : Heap} {Q : Value → Heap → Prop} (H : F35 s0 name0 h Q) : CallsH Tryz.prog 35 [.pointer s0, .string name0] h Q :=
  callsH_of (ann := fun _ => annNil) (tys := fun _ => []) (pl := fun i => bif Nat.beq i 1 then some ⟨[0, 1, 3, 7, 0, 16, 48, 112, 0, 511, 1023, 2047, 2047, 4095, 16383], 512⟩ else none) Tryz.func35 (by kernel_rfl) (by have e := F35_eq; exact (congrFun (congrFun (congrFun (congrFun (e) s0) name0) h) Q).symm ▸ H)

/-- headgate/state.name -/
def F36 (sign0 : ByteArray) (v0 : Int) (h : Heap) (Q : Value → Heap → Prop) : Prop :=
  (sign0 : ByteArray).size + (⟨#[46]⟩ : ByteArray).size ≤ 9223372036854775807 ∧
  CallsH Tryz.prog 106 [.int .i64 v0] h fun r0 h_0 =>
  DS r0 fun x0 =>
  (sign0 ++ ⟨#[46]⟩ : ByteArray).size + (x0 : ByteArray).size ≤ 9223372036854775807 ∧
  Q (.string ((sign0 ++ ⟨#[46]⟩) ++ x0)) h_0
theorem F36_eq : (fun (sign0 : ByteArray) (v0 : Int) (h : Heap) (Q : Value → Heap → Prop) => fnPT Tryz.prog Tryz.f36 (fun _ => annNil) (fun _ => []) (fun _ => none) [.string sign0, .int .i64 v0] h Q) = F36 := by kernel_rfl
theorem F36_ok {sign0 : ByteArray} {v0 : Int} {h : Heap} {Q : Value → Heap → Prop} (H : F36 sign0 v0 h Q) : CallsH Tryz.prog 36 [.string sign0, .int .i64 v0] h Q :=
  callsH_of (ann := fun _ => annNil) (tys := fun _ => []) (pl := fun _ => none) Tryz.func36 (by kernel_rfl) (by have e := F36_eq; exact (congrFun (congrFun (congrFun (congrFun (e) sign0) v0) h) Q).symm ▸ H)

/-- headgate/state.strict[headgate/api.Pair] -/
def F37 (l_0a : Option Addr) (l_0l : Nat) (l_0c : Nat) (key0f : Fn) (key0p : Array Value) (key0c : Array Value) (h : Heap) (Q : Value → Heap → Prop) : Prop :=
  LoopH (fun again0 (s0 : Int) h_0 =>
    (bif decide ((s0 : Int) < (l_0l : Int)) then
      IdxA l_0a l_0l (IntKind.wrap .i64 (s0 - 1)) 2 fun a0 =>
      Ld h_0 (a0.add 0) fun c0 =>
      Ld h_0 (a0.add 1) fun c1 =>
      ∃ (x0 : ByteArray), ∃ (x1 : ByteArray), (Value.agg #[c0, c1]) = .agg #[.string x0, .string x1] ∧
      IdxA l_0a l_0l s0 2 fun a1 =>
      Ld h_0 (a1.add 0) fun c2 =>
      Ld h_0 (a1.add 1) fun c3 =>
      ∃ (x2 : ByteArray), ∃ (x3 : ByteArray), (Value.agg #[c2, c3]) = .agg #[.string x2, .string x3] ∧
      CallV Tryz.prog (.func key0f key0p key0c) [.agg #[.string x0, .string x1]] h_0 fun r0 h_1 =>
      DS r0 fun x4 =>
      (SameV (some (.func key0f key0p key0c)) (.func key0f key0p key0c)) ∧
      (SameV (some (.slice l_0a l_0l l_0c)) (.slice l_0a l_0l l_0c)) ∧
      (SameV (some (.int .i64 s0)) (.int .i64 s0)) ∧
      (IdxA l_0a l_0l s0 2 fun a2 =>
      SameV (some (.pointer (some a1))) (.pointer (some a2))) ∧
      (Ld h_1 (a1.add 0) fun c4 =>
      Ld h_1 (a1.add 1) fun c5 =>
      ∃ (x5 : ByteArray), ∃ (x6 : ByteArray), (Value.agg #[c4, c5]) = .agg #[.string x5, .string x6] ∧
      SameV (some (.agg #[.string x2, .string x3])) (.agg #[.string x5, .string x6])) ∧
      CallV Tryz.prog (.func key0f key0p key0c) [.agg #[.string x2, .string x3]] h_1 fun r1 h_2 =>
      DS r1 fun x7 =>
      (bif !strLt x4 x7 then
        Q (.bool false) h_2
      else
        again0 (IntKind.wrap .i64 (s0 + 1)) h_2)
    else
      Q (.bool true) h_0)) 1 h
theorem F37_eq : (fun (l_0a : Option Addr) (l_0l : Nat) (l_0c : Nat) (key0f : Fn) (key0p : Array Value) (key0c : Array Value) (h : Heap) (Q : Value → Heap → Prop) => fnPT Tryz.prog Tryz.f37 (fun i => bif Nat.beq i 0 then annOne 5 (codI .i64) else annNil) (fun _ => []) (fun i => bif Nat.beq i 4 then some ⟨[0, 0, 0, 4, 14, 30, 63, 0, 0, 0, 768, 1792, 4095, 8191], 4160⟩ else none) [.slice l_0a l_0l l_0c, .func key0f key0p key0c] h Q) = F37 := by kernel_rfl
theorem F37_ok {l_0a : Option Addr} {l_0l : Nat} {l_0c : Nat} {key0f : Fn} {key0p : Array Value} {key0c : Array Value} {h : Heap} {Q : Value → Heap → Prop} (H : F37 l_0a l_0l l_0c key0f key0p key0c h Q) : CallsH Tryz.prog 37 [.slice l_0a l_0l l_0c, .func key0f key0p key0c] h Q :=
  callsH_of (ann := fun i => bif Nat.beq i 0 then annOne 5 (codI .i64) else annNil) (tys := fun _ => []) (pl := fun i => bif Nat.beq i 4 then some ⟨[0, 0, 0, 4, 14, 30, 63, 0, 0, 0, 768, 1792, 4095, 8191], 4160⟩ else none) Tryz.func37 (by kernel_rfl) (by have e := F37_eq; exact (congrFun (congrFun (congrFun (congrFun (congrFun (congrFun (congrFun (congrFun (e) l_0a) l_0l) l_0c) key0f) key0p) key0c) h) Q).symm ▸ H)

/-- (*headgate/state.Store).Load$1 -/
def F38 (p0 : ByteArray) (p1 : ByteArray) (h : Heap) (Q : Value → Heap → Prop) : Prop :=
  Al h (.cells #[.string p0, .string p1] 50) fun b0 h_0 =>
  Ld h_0 ((Addr.mk b0 0 none).add 0) fun v0 => DS v0 fun x0 =>
  Q (.string x0) h_0
theorem F38_eq : (fun (p0 : ByteArray) (p1 : ByteArray) (h : Heap) (Q : Value → Heap → Prop) => fnPT Tryz.prog Tryz.f38 (fun _ => annNil) (fun _ => []) (fun _ => none) [.agg #[.string p0, .string p1]] h Q) = F38 := by kernel_rfl
theorem F38_ok {p0 : ByteArray} {p1 : ByteArray} {h : Heap} {Q : Value → Heap → Prop} (H : F38 p0 p1 h Q) : CallsH Tryz.prog 38 [.agg #[.string p0, .string p1]] h Q :=
  callsH_of (ann := fun _ => annNil) (tys := fun _ => []) (pl := fun _ => none) Tryz.func38 (by kernel_rfl) (by have e := F38_eq; exact (congrFun (congrFun (congrFun (congrFun (e) p0) p1) h) Q).symm ▸ H)

/-- (*headgate/table.Table[string]).Put -/
def F39 (t0 : Option Addr) (key0 : ByteArray) (v0 : ByteArray) (h : Heap) (Q : Value → Heap → Prop) : Prop :=
  (bif (t0).isNone then
    Q (.tuple #[]) h
  else
    NN' t0 fun a0 =>
    Ld h (a0.add 0) fun v1 => DM v1 fun x0 =>
    ∃ es0, mapEs h x0 es0 ∧ ∃ f0, Instr.findNow .string (.string key0) (es0 : Array MapEntry).toList 0 = some f0 ∧
    DS ((Option.map (fun x => x.2) f0).getD (.string .empty)) fun x1 =>
    (bif !(Option.isSome f0) then
      NN' t0 fun a1 =>
      StC h ((a1.add 2).add 0) (.bool false) fun h_1 =>
      NN' t0 fun a2 =>
      Ld h_1 (a2.add 0) fun v2 => DM v2 fun x2 =>
      RunU Tryz.prog (Instr.mapUpdate 175 (.map x2) (.string key0) (.string v0)) h_1 fun h_2 =>
      Q (.tuple #[]) h_2
    else
      NN' t0 fun a3 =>
      Ld h (a3.add 0) fun v3 => DM v3 fun x3 =>
      RunU Tryz.prog (Instr.mapUpdate 175 (.map x3) (.string key0) (.string v0)) h fun h_3 =>
      Q (.tuple #[]) h_3))
theorem F39_eq : (fun (t0 : Option Addr) (key0 : ByteArray) (v0 : ByteArray) (h : Heap) (Q : Value → Heap → Prop) => fnPT Tryz.prog Tryz.f39 (fun _ => annNil) (fun _ => []) (fun _ => none) [.pointer t0, .string key0, .string v0] h Q) = F39 := by kernel_rfl
theorem F39_ok {t0 : Option Addr} {key0 : ByteArray} {v0 : ByteArray} {h : Heap} {Q : Value → Heap → Prop} (H : F39 t0 key0 v0 h Q) : CallsH Tryz.prog 39 [.pointer t0, .string key0, .string v0] h Q :=
  callsH_of (ann := fun _ => annNil) (tys := fun _ => []) (pl := fun _ => none) Tryz.func39 (by kernel_rfl) (by have e := F39_eq; exact (congrFun (congrFun (congrFun (congrFun (congrFun (e) t0) key0) v0) h) Q).symm ▸ H)

/-- headgate/state.changes -/
def F40 (l_0a : Option Addr) (l_0l : Nat) (l_0c : Nat) (h : Heap) (Q : Value → Heap → Prop) : Prop :=
  RunH Tryz.prog (Instr.makeSlice 43 (.int .i64 (l_0l : Int)) (.int .i64 (l_0l : Int))) h fun r0 h_0 =>
  DSl r0 fun out0a out0l out0c =>
  LoopH (fun again0 (s0 : Int) h_1 =>
    (bif decide ((s0 : Int) < (l_0l : Int)) then
      IdxA l_0a l_0l s0 2 fun a0 =>
      Ld h_1 (a0.add 0) fun c0 =>
      Ld h_1 (a0.add 1) fun c1 =>
      ∃ (x0 : ByteArray), ∃ (x1 : ByteArray), (Value.agg #[c0, c1]) = .agg #[.string x0, .string x1] ∧
      Al h_1 (.cells #[.string .empty, .string .empty] 50) fun b0 h_2 =>
      StC h_2 ((Addr.mk b0 0 none).add 0) (.string x0) fun h_4 =>
      StC h_4 ((Addr.mk b0 0 none).add 1) (.string x1) fun h_5 =>
      Ld h_5 ((Addr.mk b0 0 none).add 0) fun v0 => DS v0 fun x2 =>
      (bif strEq x2 .empty then
        Q (.tuple #[.slice none 0 0, .bool false]) h_5
      else
        Ld h_5 ((Addr.mk b0 0 none).add 0) fun v1 => DS v1 fun x3 =>
        0 ≤ (0 : Int) ∧ (0 : Int) < ((x3 : ByteArray).size : Int) ∧
        (bif ((bt x3 0) : Int) != 43 then
          Ld h_5 ((Addr.mk b0 0 none).add 0) fun v2 => DS v2 fun x4 =>
          0 ≤ (0 : Int) ∧ (0 : Int) < ((x4 : ByteArray).size : Int) ∧
          (bif ((bt x4 0) : Int) != 45 then
            Q (.tuple #[.slice none 0 0, .bool false]) h_5
          else
            Ld h_5 ((Addr.mk b0 0 none).add 0) fun v3 => DS v3 fun x5 =>
            0 ≤ (0 : Int) ∧ (0 : Int) < ((x5 : ByteArray).size : Int) ∧
            (bif ((bt x5 0) : Int) == 45 then
              Ld h_5 ((Addr.mk b0 0 none).add 1) fun v4 => DS v4 fun x6 =>
              (bif !strEq x6 .empty then
                Q (.tuple #[.slice none 0 0, .bool false]) h_5
              else
                Ld h_5 ((Addr.mk b0 0 none).add 0) fun v5 => DS v5 fun x7 =>
                SlS x7 1 ((x7 : ByteArray).size : Int) fun s1 =>
                Ld h_5 ((Addr.mk b0 0 none).add 1) fun v6 => DS v6 fun x8 =>
                Ld h_5 ((Addr.mk b0 0 none).add 0) fun v7 => DS v7 fun x9 =>
                0 ≤ (0 : Int) ∧ (0 : Int) < ((x9 : ByteArray).size : Int) ∧
                IdxA out0a out0l s0 3 fun a1 =>
                StC h_5 (a1.add 0) (.string s1) fun h_7 =>
                StC h_7 (a1.add 1) (.string x8) fun h_8 =>
                StC h_8 (a1.add 2) (.bool (((bt x9 0) : Int) == 45)) fun h_9 =>
                again0 (IntKind.wrap .i64 (s0 + 1)) h_9)
            else
              Ld h_5 ((Addr.mk b0 0 none).add 0) fun v8 => DS v8 fun x10 =>
              SlS x10 1 ((x10 : ByteArray).size : Int) fun s2 =>
              Ld h_5 ((Addr.mk b0 0 none).add 1) fun v9 => DS v9 fun x11 =>
              Ld h_5 ((Addr.mk b0 0 none).add 0) fun v10 => DS v10 fun x12 =>
              0 ≤ (0 : Int) ∧ (0 : Int) < ((x12 : ByteArray).size : Int) ∧
              IdxA out0a out0l s0 3 fun a2 =>
              StC h_5 (a2.add 0) (.string s2) fun h_11 =>
              StC h_11 (a2.add 1) (.string x11) fun h_12 =>
              StC h_12 (a2.add 2) (.bool (((bt x12 0) : Int) == 45)) fun h_13 =>
              again0 (IntKind.wrap .i64 (s0 + 1)) h_13))
        else
          Ld h_5 ((Addr.mk b0 0 none).add 0) fun v11 => DS v11 fun x13 =>
          0 ≤ (0 : Int) ∧ (0 : Int) < ((x13 : ByteArray).size : Int) ∧
          (bif ((bt x13 0) : Int) == 45 then
            Ld h_5 ((Addr.mk b0 0 none).add 1) fun v12 => DS v12 fun x14 =>
            (bif !strEq x14 .empty then
              Q (.tuple #[.slice none 0 0, .bool false]) h_5
            else
              Ld h_5 ((Addr.mk b0 0 none).add 0) fun v13 => DS v13 fun x15 =>
              SlS x15 1 ((x15 : ByteArray).size : Int) fun s3 =>
              Ld h_5 ((Addr.mk b0 0 none).add 1) fun v14 => DS v14 fun x16 =>
              Ld h_5 ((Addr.mk b0 0 none).add 0) fun v15 => DS v15 fun x17 =>
              0 ≤ (0 : Int) ∧ (0 : Int) < ((x17 : ByteArray).size : Int) ∧
              IdxA out0a out0l s0 3 fun a3 =>
              StC h_5 (a3.add 0) (.string s3) fun h_15 =>
              StC h_15 (a3.add 1) (.string x16) fun h_16 =>
              StC h_16 (a3.add 2) (.bool (((bt x17 0) : Int) == 45)) fun h_17 =>
              again0 (IntKind.wrap .i64 (s0 + 1)) h_17)
          else
            Ld h_5 ((Addr.mk b0 0 none).add 0) fun v16 => DS v16 fun x18 =>
            SlS x18 1 ((x18 : ByteArray).size : Int) fun s4 =>
            Ld h_5 ((Addr.mk b0 0 none).add 1) fun v17 => DS v17 fun x19 =>
            Ld h_5 ((Addr.mk b0 0 none).add 0) fun v18 => DS v18 fun x20 =>
            0 ≤ (0 : Int) ∧ (0 : Int) < ((x20 : ByteArray).size : Int) ∧
            IdxA out0a out0l s0 3 fun a4 =>
            StC h_5 (a4.add 0) (.string s4) fun h_19 =>
            StC h_19 (a4.add 1) (.string x19) fun h_20 =>
            StC h_20 (a4.add 2) (.bool (((bt x20 0) : Int) == 45)) fun h_21 =>
            again0 (IntKind.wrap .i64 (s0 + 1)) h_21)))
    else
      CallsH Tryz.prog 107 [.slice out0a out0l out0c, .func (.func 108) #[] #[]] h_1 fun r7 h_22 =>
      DB r7 fun x21 =>
      Q (.tuple #[.slice out0a out0l out0c, .bool x21]) h_22)) 0 h_0
theorem F40_eq : (fun (l_0a : Option Addr) (l_0l : Nat) (l_0c : Nat) (h : Heap) (Q : Value → Heap → Prop) => fnPT Tryz.prog Tryz.f40 (fun i => bif Nat.beq i 0 then annOne 12 (codI .i64) else annNil) (fun _ => []) (fun i => bif Nat.beq i 7 then some ⟨[0, 0, 0, 4, 12, 0, 32, 0, 128, 384, 896, 2044, 4095, 8191], 8192⟩ else none) [.slice l_0a l_0l l_0c] h Q) = F40 := by kernel_rfl
theorem F40_ok {l_0a : Option Addr} {l_0l : Nat} {l_0c : Nat} {h : Heap} {Q : Value → Heap → Prop} (H : F40 l_0a l_0l l_0c h Q) : CallsH Tryz.prog 40 [.slice l_0a l_0l l_0c] h Q :=
  callsH_of (ann := fun i => bif Nat.beq i 0 then annOne 12 (codI .i64) else annNil) (tys := fun _ => []) (pl := fun i => bif Nat.beq i 7 then some ⟨[0, 0, 0, 4, 12, 0, 32, 0, 128, 384, 896, 2044, 4095, 8191], 8192⟩ else none) Tryz.func40 (by kernel_rfl) (by have e := F40_eq; exact (congrFun (congrFun (congrFun (congrFun (congrFun (e) l_0a) l_0l) l_0c) h) Q).symm ▸ H)

/-- headgate/table.Apply[string] -/
def F41 (t0 : Option Addr) (l_0a : Option Addr) (l_0l : Nat) (l_0c : Nat) (h : Heap) (Q : Value → Heap → Prop) : Prop :=
  CallsH Tryz.prog 109 [.pointer t0] h fun r0 h_0 =>
  DP r0 fun c0 =>
  LoopH (fun again0 (s0 : Int) h_1 =>
    (bif decide ((s0 : Int) < (l_0l : Int)) then
      IdxA l_0a l_0l s0 3 fun a0 =>
      Ld h_1 (a0.add 0) fun c1 =>
      Ld h_1 (a0.add 1) fun c2 =>
      Ld h_1 (a0.add 2) fun c3 =>
      ∃ (x0 : ByteArray), ∃ (x1 : ByteArray), ∃ (x2 : Bool), (Value.agg #[c1, c2, c3]) = .agg #[.string x0, .string x1, .bool x2] ∧
      Al h_1 (.cells #[.string .empty, .string .empty, .bool false] 103) fun b0 h_2 =>
      StC h_2 ((Addr.mk b0 0 none).add 0) (.string x0) fun h_4 =>
      StC h_4 ((Addr.mk b0 0 none).add 1) (.string x1) fun h_5 =>
      StC h_5 ((Addr.mk b0 0 none).add 2) (.bool x2) fun h_6 =>
      Ld h_6 ((Addr.mk b0 0 none).add 2) fun v0 => DB v0 fun x3 =>
      (bif x3 then
        Ld h_6 ((Addr.mk b0 0 none).add 0) fun v1 => DS v1 fun x4 =>
        CallsH Tryz.prog 110 [.pointer c0, .string x4] h_6 fun r3 h_7 =>
        DB r3 fun x5 =>
        again0 (IntKind.wrap .i64 (s0 + 1)) h_7
      else
        Ld h_6 ((Addr.mk b0 0 none).add 0) fun v2 => DS v2 fun x6 =>
        Ld h_6 ((Addr.mk b0 0 none).add 1) fun v3 => DS v3 fun x7 =>
        CallsH Tryz.prog 39 [.pointer c0, .string x6, .string x7] h_6 fun r4 h_8 =>
        r4 = .tuple #[] ∧
        again0 (IntKind.wrap .i64 (s0 + 1)) h_8)
    else
      Q (.pointer c0) h_1)) 0 h_0
theorem F41_eq : (fun (t0 : Option Addr) (l_0a : Option Addr) (l_0l : Nat) (l_0c : Nat) (h : Heap) (Q : Value → Heap → Prop) => fnPT Tryz.prog Tryz.f41 (fun i => bif Nat.beq i 0 then annOne 12 (codI .i64) else annNil) (fun _ => []) (fun _ => none) [.pointer t0, .slice l_0a l_0l l_0c] h Q) = F41 := by kernel_rfl
theorem F41_ok {t0 : Option Addr} {l_0a : Option Addr} {l_0l : Nat} {l_0c : Nat} {h : Heap} {Q : Value → Heap → Prop} (H : F41 t0 l_0a l_0l l_0c h Q) : CallsH Tryz.prog 41 [.pointer t0, .slice l_0a l_0l l_0c] h Q :=
  callsH_of (ann := fun i => bif Nat.beq i 0 then annOne 12 (codI .i64) else annNil) (tys := fun _ => []) (pl := fun _ => none) Tryz.func41 (by kernel_rfl) (by have e := F41_eq; exact (congrFun (congrFun (congrFun (congrFun (congrFun (congrFun (e) t0) l_0a) l_0l) l_0c) h) Q).symm ▸ H)

/-- (*headgate/state.Store).right -/
def F44 (s0 : Option Addr) (v0 : Int) (h : Heap) (Q : Value → Heap → Prop) : Prop :=
  (bif (s0).isNone then
    Q (.int .i64 1) h
  else
    (bif decide ((v0 : Int) < 1) then
      Q (.int .i64 2) h
    else
      (bif decide ((v0 : Int) > 1099511627776) then
        Q (.int .i64 2) h
      else
        Q (.int .i64 0) h)))
theorem F44_eq : (fun (s0 : Option Addr) (v0 : Int) (h : Heap) (Q : Value → Heap → Prop) => fnPT Tryz.prog Tryz.f44 (fun _ => annNil) (fun _ => []) (fun _ => none) [.pointer s0, .int .i64 v0] h Q) = F44 := by kernel_rfl
theorem F44_ok {s0 : Option Addr} {v0 : Int} {h : Heap} {Q : Value → Heap → Prop} (H : F44 s0 v0 h Q) : CallsH Tryz.prog 44 [.pointer s0, .int .i64 v0] h Q :=
  callsH_of (ann := fun _ => annNil) (tys := fun _ => []) (pl := fun _ => none) Tryz.func44 (by kernel_rfl) (by have e := F44_eq; exact (congrFun (congrFun (congrFun (congrFun (e) s0) v0) h) Q).symm ▸ H)

/-- (*headgate/state.Store).lay -/
def F45 (s0 : Option Addr) (of_0 : Option Nat) (sign0 : ByteArray) (v0 : Int) (l_0a : Option Addr) (l_0l : Nat) (l_0c : Nat) (h : Heap) (Q : Value → Heap → Prop) : Prop :=
  CallsH Tryz.prog 113 [.slice l_0a l_0l l_0c] h fun r0 h_0 =>
  ∃ (x0a : Option Addr), ∃ (x0l : Nat), ∃ (x0c : Nat), ∃ (x1 : Int), r0 = .tuple #[.slice x0a x0l x0c, .int .i64 x1] ∧
  (bif (x1 : Int) != 0 then
    Q (.int .i64 x1) h_0
  else
    NN' s0 fun a0 =>
    Ld h_0 (a0.add 0) fun v1 => DP v1 fun x2 =>
    NN' s0 fun a1 =>
    Ld h_0 (a1.add 1) fun v2 => DS v2 fun x3 =>
    CallsH Tryz.prog 36 [.string sign0, .int .i64 v0] h_0 fun r1 h_1 =>
    DS r1 fun x4 =>
    (SameV (some (.pointer s0)) (.pointer s0)) ∧
    (NN' s0 fun a2 =>
    SameV (some (.pointer (some a0))) (.pointer (some a2))) ∧
    (SameV (some (.pointer (some (a0.add 0)))) (.pointer (some (a0.add 0)))) ∧
    (Ld h_1 (a0.add 0) fun v3 => DP v3 fun x5 =>
    SameV (some (.pointer x2)) (.pointer x5)) ∧
    (SameV (some (.pointer s0)) (.pointer s0)) ∧
    (NN' s0 fun a3 =>
    SameV (some (.pointer (some a1))) (.pointer (some a3))) ∧
    (SameV (some (.pointer (some (a1.add 1)))) (.pointer (some (a1.add 1)))) ∧
    (Ld h_1 (a1.add 1) fun v4 => DS v4 fun x6 =>
    SameV (some (.string x3)) (.string x6)) ∧
    (SameV (some (.slice x0a x0l x0c)) (.slice x0a x0l x0c)) ∧
    CallsH Tryz.prog 114 [.pointer x2, .string x3, .string x4, .slice x0a x0l x0c] h_1 fun r2 h_2 =>
    DI .i64 r2 fun e0 =>
    (bif (e0 : Int) != 0 then
      Q (.int .i64 e0) h_2
    else
      RunU Tryz.prog (Instr.mapUpdate 84 (.map of_0) (.int .i64 v0) (.agg #[])) h_2 fun h_3 =>
      Q (.int .i64 0) h_3))
theorem F45_eq : (fun (s0 : Option Addr) (of_0 : Option Nat) (sign0 : ByteArray) (v0 : Int) (l_0a : Option Addr) (l_0l : Nat) (l_0c : Nat) (h : Heap) (Q : Value → Heap → Prop) => fnPT Tryz.prog Tryz.f45 (fun _ => annNil) (fun _ => []) (fun i => bif Nat.beq i 4 then some ⟨[0, 1, 3, 7, 0, 16, 48, 112, 0, 0, 768, 0, 4095, 8191], 5120⟩ else none) [.pointer s0, .map of_0, .string sign0, .int .i64 v0, .slice l_0a l_0l l_0c] h Q) = F45 := by kernel_rfl
theorem F45_ok {s0 : Option Addr} {of_0 : Option Nat} {sign0 : ByteArray} {v0 : Int} {l_0a : Option Addr} {l_0l : Nat} {l_0c : Nat} {h : Heap} {Q : Value → Heap → Prop} (H : F45 s0 of_0 sign0 v0 l_0a l_0l l_0c h Q) : CallsH Tryz.prog 45 [.pointer s0, .map of_0, .string sign0, .int .i64 v0, .slice l_0a l_0l l_0c] h Q :=
  callsH_of (ann := fun _ => annNil) (tys := fun _ => []) (pl := fun i => bif Nat.beq i 4 then some ⟨[0, 1, 3, 7, 0, 16, 48, 112, 0, 0, 768, 0, 4095, 8191], 5120⟩ else none) Tryz.func45 (by kernel_rfl) (by have e := F45_eq; exact (congrFun (congrFun (congrFun (congrFun (congrFun (congrFun (congrFun (congrFun (congrFun (e) s0) of_0) sign0) v0) l_0a) l_0l) l_0c) h) Q).symm ▸ H)

/-- (*headgate/table.Table[string]).All -/
def F46 (t0 : Option Addr) (h : Heap) (Q : Value → Heap → Prop) : Prop :=
  CallsH Tryz.prog 115 [.pointer t0, .string .empty] h fun r0 h_0 =>
  ∃ (x0 : Value), r0 = x0 ∧
  Q x0 h_0
theorem F46_eq : (fun (t0 : Option Addr) (h : Heap) (Q : Value → Heap → Prop) => fnPT Tryz.prog Tryz.f46 (fun _ => annNil) (fun _ => []) (fun _ => none) [.pointer t0] h Q) = F46 := by kernel_rfl
theorem F46_ok {t0 : Option Addr} {h : Heap} {Q : Value → Heap → Prop} (H : F46 t0 h Q) : CallsH Tryz.prog 46 [.pointer t0] h Q :=
  callsH_of (ann := fun _ => annNil) (tys := fun _ => []) (pl := fun _ => none) Tryz.func46 (by kernel_rfl) (by have e := F46_eq; exact (congrFun (congrFun (congrFun (e) t0) h) Q).symm ▸ H)

/-- (*headgate/state.Store).Drop$1 -/
def F47 (of_0 : Option Nat) (sign0 : ByteArray) (gone0f : Fn) (gone0p : Array Value) (gone0c : Array Value) (c0 : Addr) (c1 : Addr) (h : Heap) (Q : Value → Heap → Prop) : Prop :=
  CallsH Tryz.prog 49 [.map of_0] h fun r0 h_0 =>
  ∃ (x0 : Value), r0 = x0 ∧
  CallsH Tryz.prog 48 [x0] h_0 fun r1 h_1 =>
  DSl r1 fun x1a x1l x1c =>
  LoopH (fun again0 (s0 : Int) h_2 =>
    (bif decide ((s0 : Int) < (x1l : Int)) then
      IdxA x1a x1l s0 1 fun a0 =>
      Ld h_2 a0 fun v0 => DI .i64 v0 fun v1 =>
      CallV Tryz.prog (.func gone0f gone0p gone0c) [.int .i64 v1] h_2 fun r2 h_3 =>
      DB r2 fun x2 =>
      (bif !x2 then
        again0 (IntKind.wrap .i64 (s0 + 1)) h_3
      else
        Ld h_3 c0 fun v2 => DP v2 fun x3 =>
        NN' x3 fun a1 =>
        Ld h_3 (a1.add 0) fun v3 => DP v3 fun x4 =>
        Ld h_3 c0 fun v4 => DP v4 fun x5 =>
        NN' x5 fun a2 =>
        Ld h_3 (a2.add 1) fun v5 => DS v5 fun x6 =>
        CallsH Tryz.prog 36 [.string sign0, .int .i64 v1] h_3 fun r3 h_4 =>
        DS r3 fun x7 =>
        (Ld h_4 c0 fun v6 => DP v6 fun x8 =>
        SameV (some (.pointer x3)) (.pointer x8)) ∧
        (NN' x3 fun a3 =>
        SameV (some (.pointer (some a1))) (.pointer (some a3))) ∧
        (SameV (some (.pointer (some (a1.add 0)))) (.pointer (some (a1.add 0)))) ∧
        (Ld h_4 (a1.add 0) fun v7 => DP v7 fun x9 =>
        SameV (some (.pointer x4)) (.pointer x9)) ∧
        (Ld h_4 c0 fun v8 => DP v8 fun x10 =>
        SameV (some (.pointer x5)) (.pointer x10)) ∧
        (NN' x5 fun a4 =>
        SameV (some (.pointer (some a2))) (.pointer (some a4))) ∧
        (SameV (some (.pointer (some (a2.add 1)))) (.pointer (some (a2.add 1)))) ∧
        (Ld h_4 (a2.add 1) fun v9 => DS v9 fun x11 =>
        SameV (some (.string x6)) (.string x11)) ∧
        CallsH Tryz.prog 50 [.pointer x4, .string x6, .string x7] h_4 fun r4 h_5 =>
        DI .i64 r4 fun e0 =>
        (bif (e0 : Int) != 0 then
          Q (.int .i64 e0) h_5
        else
          RunH Tryz.prog (Builtin.delete_ #[84, 2] 0 #[.map of_0, .int .i64 v1]) h_5 fun r5 h_6 =>
          StC h_6 (c1.add 0) (.bool true) fun h_8 =>
          again0 (IntKind.wrap .i64 (s0 + 1)) h_8))
    else
      Q (.int .i64 0) h_2)) 0 h_1
theorem F47_eq : (fun (of_0 : Option Nat) (sign0 : ByteArray) (gone0f : Fn) (gone0p : Array Value) (gone0c : Array Value) (c0 : Addr) (c1 : Addr) (h : Heap) (Q : Value → Heap → Prop) => fnPT Tryz.prog Tryz.f47 (fun i => bif Nat.beq i 0 then annOne 16 (codI .i64) else annNil) (fun _ => []) (fun i => bif Nat.beq i 5 then some ⟨[0, 1, 3, 7, 0, 16, 48, 112, 0, 0, 768, 2047, 4095], 3072⟩ else none) [.map of_0, .string sign0, .func gone0f gone0p gone0c, .pointer (some c0), .pointer (some c1)] h Q) = F47 := by kernel_rfl
theorem F47_ok {of_0 : Option Nat} {sign0 : ByteArray} {gone0f : Fn} {gone0p : Array Value} {gone0c : Array Value} {c0 : Addr} {c1 : Addr} {h : Heap} {Q : Value → Heap → Prop} (H : F47 of_0 sign0 gone0f gone0p gone0c c0 c1 h Q) : CallsH Tryz.prog 47 [.map of_0, .string sign0, .func gone0f gone0p gone0c, .pointer (some c0), .pointer (some c1)] h Q :=
  callsH_of (ann := fun i => bif Nat.beq i 0 then annOne 16 (codI .i64) else annNil) (tys := fun _ => []) (pl := fun i => bif Nat.beq i 5 then some ⟨[0, 1, 3, 7, 0, 16, 48, 112, 0, 0, 768, 2047, 4095], 3072⟩ else none) Tryz.func47 (by kernel_rfl) (by have e := F47_eq; exact (congrFun (congrFun (congrFun (congrFun (congrFun (congrFun (congrFun (congrFun (congrFun (e) of_0) sign0) gone0f) gone0p) gone0c) c0) c1) h) Q).symm ▸ H)

/-- slices.Sorted[int64] -/
def F48 (seq0 : Value) (h : Heap) (Q : Value → Heap → Prop) : Prop :=
  CallsH Tryz.prog 116 [seq0] h fun r0 h_0 =>
  DSl r0 fun s0a s0l s0c =>
  CallsH Tryz.prog 117 [.slice s0a s0l s0c] h_0 fun r1 h_1 =>
  r1 = .tuple #[] ∧
  Q (.slice s0a s0l s0c) h_1
theorem F48_eq : (fun (seq0 : Value) (h : Heap) (Q : Value → Heap → Prop) => fnPT Tryz.prog Tryz.f48 (fun _ => annNil) (fun _ => []) (fun _ => none) [seq0] h Q) = F48 := by kernel_rfl
theorem F48_ok {seq0 : Value} {h : Heap} {Q : Value → Heap → Prop} (H : F48 seq0 h Q) : CallsH Tryz.prog 48 [seq0] h Q :=
  callsH_of (ann := fun _ => annNil) (tys := fun _ => []) (pl := fun _ => none) Tryz.func48 (by kernel_rfl) (by have e := F48_eq; exact (congrFun (congrFun (congrFun (e) seq0) h) Q).symm ▸ H)

/-- maps.Keys[headgate/state.numbers,int64,struct{}] -/
def F49 (m0 : Option Nat) (h : Heap) (Q : Value → Heap → Prop) : Prop :=
  Al h (.cells #[.map m0] 84) fun b0 h_0 =>
  Q (.func (.func 118) #[] #[.pointer (some (Addr.mk b0 0 none))]) h_0
theorem F49_eq : (fun (m0 : Option Nat) (h : Heap) (Q : Value → Heap → Prop) => fnPT Tryz.prog Tryz.f49 (fun _ => annNil) (fun _ => []) (fun _ => none) [.map m0] h Q) = F49 := by kernel_rfl
theorem F49_ok {m0 : Option Nat} {h : Heap} {Q : Value → Heap → Prop} (H : F49 m0 h Q) : CallsH Tryz.prog 49 [.map m0] h Q :=
  callsH_of (ann := fun _ => annNil) (tys := fun _ => []) (pl := fun _ => none) Tryz.func49 (by kernel_rfl) (by have e := F49_eq; exact (congrFun (congrFun (congrFun (e) m0) h) Q).symm ▸ H)

/-- (*headgate/state.Store).Drop$2 -/
def F51 (v0 : Int) (c0 : Addr) (h : Heap) (Q : Value → Heap → Prop) : Prop :=
  Ld h c0 fun v1 => DI .i64 v1 fun x0 =>
  Q (.bool (decide ((v0 : Int) ≤ x0))) h
theorem F51_eq : (fun (v0 : Int) (c0 : Addr) (h : Heap) (Q : Value → Heap → Prop) => fnPT Tryz.prog Tryz.f51 (fun _ => annNil) (fun _ => []) (fun _ => none) [.int .i64 v0, .pointer (some c0)] h Q) = F51 := by kernel_rfl
theorem F51_ok {v0 : Int} {c0 : Addr} {h : Heap} {Q : Value → Heap → Prop} (H : F51 v0 c0 h Q) : CallsH Tryz.prog 51 [.int .i64 v0, .pointer (some c0)] h Q :=
  callsH_of (ann := fun _ => annNil) (tys := fun _ => []) (pl := fun _ => none) Tryz.func51 (by kernel_rfl) (by have e := F51_eq; exact (congrFun (congrFun (congrFun (congrFun (e) v0) c0) h) Q).symm ▸ H)

/-- (*headgate/state.Store).Drop$3 -/
def F52 (v0 : Int) (c0 : Addr) (h : Heap) (Q : Value → Heap → Prop) : Prop :=
  Ld h c0 fun v1 => DI .i64 v1 fun x0 =>
  Q (.bool (decide ((v0 : Int) < x0))) h
theorem F52_eq : (fun (v0 : Int) (c0 : Addr) (h : Heap) (Q : Value → Heap → Prop) => fnPT Tryz.prog Tryz.f52 (fun _ => annNil) (fun _ => []) (fun _ => none) [.int .i64 v0, .pointer (some c0)] h Q) = F52 := by kernel_rfl
theorem F52_ok {v0 : Int} {c0 : Addr} {h : Heap} {Q : Value → Heap → Prop} (H : F52 v0 c0 h Q) : CallsH Tryz.prog 52 [.int .i64 v0, .pointer (some c0)] h Q :=
  callsH_of (ann := fun _ => annNil) (tys := fun _ => []) (pl := fun _ => none) Tryz.func52 (by kernel_rfl) (by have e := F52_eq; exact (congrFun (congrFun (congrFun (congrFun (e) v0) c0) h) Q).symm ▸ H)

/-- headgate/headgateref17.Set -/
def F54 (l_0a : Option Addr) (l_0l : Nat) (l_0c : Nat) (key0 : ByteArray) (val0 : ByteArray) (h : Heap) (Q : Value → Heap → Prop) : Prop :=
  LoopH (fun again0 (s0 : Sl × Bool × Int) h_0 =>
    (bif decide ((s0.2.2 : Int) < (l_0l : Int)) then
      (bif !s0.2.1 then
        IdxA l_0a l_0l s0.2.2 2 fun a0 =>
        Ld h_0 (a0.add 0) fun v0 => DS v0 fun x0 =>
        (bif !strLt x0 key0 then
          Al h_0 (.cells #[.string key0, .string val0] 50) fun b0 h_1 =>
          RunH Tryz.prog (Builtin.append_ #[41, 41] 41 #[.slice s0.1.a s0.1.l s0.1.c, .slice (some (Addr.mk b0 0 none)) 1 1]) h_1 fun r1 h_2 =>
          DSl r1 fun out0a out0l out0c =>
          IdxA l_0a l_0l s0.2.2 2 fun a1 =>
          Ld h_2 (a1.add 0) fun v1 => DS v1 fun x1 =>
          (bif !strEq x1 key0 then
            IdxA l_0a l_0l s0.2.2 2 fun a2 =>
            Ld h_2 (a2.add 0) fun c0 =>
            Ld h_2 (a2.add 1) fun c1 =>
            ∃ (x2 : ByteArray), ∃ (x3 : ByteArray), (Value.agg #[c0, c1]) = .agg #[.string x2, .string x3] ∧
            Al h_2 (.cells #[.string x2, .string x3] 50) fun b1 h_3 =>
            RunH Tryz.prog (Builtin.append_ #[41, 41] 41 #[.slice out0a out0l out0c, .slice (some (Addr.mk b1 0 none)) 1 1]) h_3 fun r3 h_4 =>
            DSl r3 fun out1a out1l out1c =>
            again0 (⟨out1a, out1l, out1c⟩, true, IntKind.wrap .i64 (s0.2.2 + 1)) h_4
          else
            again0 (⟨out0a, out0l, out0c⟩, true, IntKind.wrap .i64 (s0.2.2 + 1)) h_2)
        else
          IdxA l_0a l_0l s0.2.2 2 fun a3 =>
          Ld h_0 (a3.add 0) fun v2 => DS v2 fun x4 =>
          (bif !strEq x4 key0 then
            IdxA l_0a l_0l s0.2.2 2 fun a4 =>
            Ld h_0 (a4.add 0) fun c2 =>
            Ld h_0 (a4.add 1) fun c3 =>
            ∃ (x5 : ByteArray), ∃ (x6 : ByteArray), (Value.agg #[c2, c3]) = .agg #[.string x5, .string x6] ∧
            Al h_0 (.cells #[.string x5, .string x6] 50) fun b2 h_5 =>
            RunH Tryz.prog (Builtin.append_ #[41, 41] 41 #[.slice s0.1.a s0.1.l s0.1.c, .slice (some (Addr.mk b2 0 none)) 1 1]) h_5 fun r5 h_6 =>
            DSl r5 fun out2a out2l out2c =>
            again0 (⟨out2a, out2l, out2c⟩, s0.2.1, IntKind.wrap .i64 (s0.2.2 + 1)) h_6
          else
            again0 (⟨s0.1.a, s0.1.l, s0.1.c⟩, s0.2.1, IntKind.wrap .i64 (s0.2.2 + 1)) h_0))
      else
        IdxA l_0a l_0l s0.2.2 2 fun a5 =>
        Ld h_0 (a5.add 0) fun v3 => DS v3 fun x7 =>
        (bif !strEq x7 key0 then
          IdxA l_0a l_0l s0.2.2 2 fun a6 =>
          Ld h_0 (a6.add 0) fun c4 =>
          Ld h_0 (a6.add 1) fun c5 =>
          ∃ (x8 : ByteArray), ∃ (x9 : ByteArray), (Value.agg #[c4, c5]) = .agg #[.string x8, .string x9] ∧
          Al h_0 (.cells #[.string x8, .string x9] 50) fun b3 h_7 =>
          RunH Tryz.prog (Builtin.append_ #[41, 41] 41 #[.slice s0.1.a s0.1.l s0.1.c, .slice (some (Addr.mk b3 0 none)) 1 1]) h_7 fun r7 h_8 =>
          DSl r7 fun out3a out3l out3c =>
          again0 (⟨out3a, out3l, out3c⟩, s0.2.1, IntKind.wrap .i64 (s0.2.2 + 1)) h_8
        else
          again0 (⟨s0.1.a, s0.1.l, s0.1.c⟩, s0.2.1, IntKind.wrap .i64 (s0.2.2 + 1)) h_0))
    else
      (bif !s0.2.1 then
        Al h_0 (.cells #[.string key0, .string val0] 50) fun b4 h_9 =>
        RunH Tryz.prog (Builtin.append_ #[41, 41] 41 #[.slice s0.1.a s0.1.l s0.1.c, .slice (some (Addr.mk b4 0 none)) 1 1]) h_9 fun r9 h_10 =>
        DSl r9 fun out4a out4l out4c =>
        Q (.slice out4a out4l out4c) h_10
      else
        Q (.slice s0.1.a s0.1.l s0.1.c) h_0))) (⟨none, 0, 0⟩, false, 0) h
theorem F54_eq : (fun (l_0a : Option Addr) (l_0l : Nat) (l_0c : Nat) (key0 : ByteArray) (val0 : ByteArray) (h : Heap) (Q : Value → Heap → Prop) => fnPT Tryz.prog Tryz.f54 (fun i => bif Nat.beq i 0 then annCons 7 (codSl) (annCons 8 (codB) (annOne 9 (codI .i64))) else annNil) (fun _ => []) (fun _ => none) [.slice l_0a l_0l l_0c, .string key0, .string val0] h Q) = F54 := by kernel_rfl
theorem F54_ok {l_0a : Option Addr} {l_0l : Nat} {l_0c : Nat} {key0 : ByteArray} {val0 : ByteArray} {h : Heap} {Q : Value → Heap → Prop} (H : F54 l_0a l_0l l_0c key0 val0 h Q) : CallsH Tryz.prog 54 [.slice l_0a l_0l l_0c, .string key0, .string val0] h Q :=
  callsH_of (ann := fun i => bif Nat.beq i 0 then annCons 7 (codSl) (annCons 8 (codB) (annOne 9 (codI .i64))) else annNil) (tys := fun _ => []) (pl := fun _ => none) Tryz.func54 (by kernel_rfl) (by have e := F54_eq; exact (congrFun (congrFun (congrFun (congrFun (congrFun (congrFun (congrFun (e) l_0a) l_0l) l_0c) key0) val0) h) Q).symm ▸ H)

/-- (*headgate/table.Table[string]).Get -/
def F55 (t0 : Option Addr) (key0 : ByteArray) (h : Heap) (Q : Value → Heap → Prop) : Prop :=
  (bif (t0).isNone then
    Q (.tuple #[.string .empty, .bool false]) h
  else
    NN' t0 fun a0 =>
    Ld h (a0.add 0) fun v0 => DM v0 fun x0 =>
    ∃ es0, mapEs h x0 es0 ∧ ∃ f0, Instr.findNow .string (.string key0) (es0 : Array MapEntry).toList 0 = some f0 ∧
    DS ((Option.map (fun x => x.2) f0).getD (.string .empty)) fun x1 =>
    Q (.tuple #[.string x1, .bool (Option.isSome f0)]) h)
theorem F55_eq : (fun (t0 : Option Addr) (key0 : ByteArray) (h : Heap) (Q : Value → Heap → Prop) => fnPT Tryz.prog Tryz.f55 (fun _ => annNil) (fun _ => []) (fun _ => none) [.pointer t0, .string key0] h Q) = F55 := by kernel_rfl
theorem F55_ok {t0 : Option Addr} {key0 : ByteArray} {h : Heap} {Q : Value → Heap → Prop} (H : F55 t0 key0 h Q) : CallsH Tryz.prog 55 [.pointer t0, .string key0] h Q :=
  callsH_of (ann := fun _ => annNil) (tys := fun _ => []) (pl := fun _ => none) Tryz.func55 (by kernel_rfl) (by have e := F55_eq; exact (congrFun (congrFun (congrFun (congrFun (e) t0) key0) h) Q).symm ▸ H)

/-- headgate/code.Unpairs -/
def F105 (b0a : Option Addr) (b0l : Nat) (b0c : Nat) (h : Heap) (Q : Value → Heap → Prop) : Prop :=
  CallsH Tryz.prog 153 [.slice b0a b0l b0c, .func (.func 154) #[] #[]] h fun r0 h_0 =>
  ∃ (x0a : Option Addr), ∃ (x0l : Nat), ∃ (x0c : Nat), ∃ (x1 : Int), r0 = .tuple #[.slice x0a x0l x0c, .int .i64 x1] ∧
  Q (.tuple #[.slice x0a x0l x0c, .int .i64 x1]) h_0
theorem F105_eq : (fun (b0a : Option Addr) (b0l : Nat) (b0c : Nat) (h : Heap) (Q : Value → Heap → Prop) => fnPT Tryz.prog Tryz.f105 (fun _ => annNil) (fun _ => []) (fun _ => none) [.slice b0a b0l b0c] h Q) = F105 := by kernel_rfl
theorem F105_ok {b0a : Option Addr} {b0l : Nat} {b0c : Nat} {h : Heap} {Q : Value → Heap → Prop} (H : F105 b0a b0l b0c h Q) : CallsH Tryz.prog 105 [.slice b0a b0l b0c] h Q :=
  callsH_of (ann := fun _ => annNil) (tys := fun _ => []) (pl := fun _ => none) Tryz.func105 (by kernel_rfl) (by have e := F105_eq; exact (congrFun (congrFun (congrFun (congrFun (congrFun (e) b0a) b0l) b0c) h) Q).symm ▸ H)

/-- headgate/state.strict[headgate/table.Change[string]] -/
def F107 (l_0a : Option Addr) (l_0l : Nat) (l_0c : Nat) (key0f : Fn) (key0p : Array Value) (key0c : Array Value) (h : Heap) (Q : Value → Heap → Prop) : Prop :=
  LoopH (fun again0 (s0 : Int) h_0 =>
    (bif decide ((s0 : Int) < (l_0l : Int)) then
      IdxA l_0a l_0l (IntKind.wrap .i64 (s0 - 1)) 3 fun a0 =>
      Ld h_0 (a0.add 0) fun c0 =>
      Ld h_0 (a0.add 1) fun c1 =>
      Ld h_0 (a0.add 2) fun c2 =>
      ∃ (x0 : ByteArray), ∃ (x1 : ByteArray), ∃ (x2 : Bool), (Value.agg #[c0, c1, c2]) = .agg #[.string x0, .string x1, .bool x2] ∧
      IdxA l_0a l_0l s0 3 fun a1 =>
      Ld h_0 (a1.add 0) fun c3 =>
      Ld h_0 (a1.add 1) fun c4 =>
      Ld h_0 (a1.add 2) fun c5 =>
      ∃ (x3 : ByteArray), ∃ (x4 : ByteArray), ∃ (x5 : Bool), (Value.agg #[c3, c4, c5]) = .agg #[.string x3, .string x4, .bool x5] ∧
      CallV Tryz.prog (.func key0f key0p key0c) [.agg #[.string x0, .string x1, .bool x2]] h_0 fun r0 h_1 =>
      DS r0 fun x6 =>
      (SameV (some (.func key0f key0p key0c)) (.func key0f key0p key0c)) ∧
      (SameV (some (.slice l_0a l_0l l_0c)) (.slice l_0a l_0l l_0c)) ∧
      (SameV (some (.int .i64 s0)) (.int .i64 s0)) ∧
      (IdxA l_0a l_0l s0 3 fun a2 =>
      SameV (some (.pointer (some a1))) (.pointer (some a2))) ∧
      (Ld h_1 (a1.add 0) fun c6 =>
      Ld h_1 (a1.add 1) fun c7 =>
      Ld h_1 (a1.add 2) fun c8 =>
      ∃ (x7 : ByteArray), ∃ (x8 : ByteArray), ∃ (x9 : Bool), (Value.agg #[c6, c7, c8]) = .agg #[.string x7, .string x8, .bool x9] ∧
      SameV (some (.agg #[.string x3, .string x4, .bool x5])) (.agg #[.string x7, .string x8, .bool x9])) ∧
      CallV Tryz.prog (.func key0f key0p key0c) [.agg #[.string x3, .string x4, .bool x5]] h_1 fun r1 h_2 =>
      DS r1 fun x10 =>
      (bif !strLt x6 x10 then
        Q (.bool false) h_2
      else
        again0 (IntKind.wrap .i64 (s0 + 1)) h_2)
    else
      Q (.bool true) h_0)) 1 h
theorem F107_eq : (fun (l_0a : Option Addr) (l_0l : Nat) (l_0c : Nat) (key0f : Fn) (key0p : Array Value) (key0c : Array Value) (h : Heap) (Q : Value → Heap → Prop) => fnPT Tryz.prog Tryz.f107 (fun i => bif Nat.beq i 0 then annOne 5 (codI .i64) else annNil) (fun _ => []) (fun i => bif Nat.beq i 4 then some ⟨[0, 0, 0, 4, 14, 30, 63, 0, 0, 0, 768, 1792, 4095, 8191], 4160⟩ else none) [.slice l_0a l_0l l_0c, .func key0f key0p key0c] h Q) = F107 := by kernel_rfl
theorem F107_ok {l_0a : Option Addr} {l_0l : Nat} {l_0c : Nat} {key0f : Fn} {key0p : Array Value} {key0c : Array Value} {h : Heap} {Q : Value → Heap → Prop} (H : F107 l_0a l_0l l_0c key0f key0p key0c h Q) : CallsH Tryz.prog 107 [.slice l_0a l_0l l_0c, .func key0f key0p key0c] h Q :=
  callsH_of (ann := fun i => bif Nat.beq i 0 then annOne 5 (codI .i64) else annNil) (tys := fun _ => []) (pl := fun i => bif Nat.beq i 4 then some ⟨[0, 0, 0, 4, 14, 30, 63, 0, 0, 0, 768, 1792, 4095, 8191], 4160⟩ else none) Tryz.func107 (by kernel_rfl) (by have e := F107_eq; exact (congrFun (congrFun (congrFun (congrFun (congrFun (congrFun (congrFun (congrFun (e) l_0a) l_0l) l_0c) key0f) key0p) key0c) h) Q).symm ▸ H)

/-- headgate/state.changes$1 -/
def F108 (c0 : ByteArray) (c1 : ByteArray) (c2 : Bool) (h : Heap) (Q : Value → Heap → Prop) : Prop :=
  Al h (.cells #[.string c0, .string c1, .bool c2] 103) fun b0 h_0 =>
  Ld h_0 ((Addr.mk b0 0 none).add 0) fun v0 => DS v0 fun x0 =>
  Q (.string x0) h_0
theorem F108_eq : (fun (c0 : ByteArray) (c1 : ByteArray) (c2 : Bool) (h : Heap) (Q : Value → Heap → Prop) => fnPT Tryz.prog Tryz.f108 (fun _ => annNil) (fun _ => []) (fun _ => none) [.agg #[.string c0, .string c1, .bool c2]] h Q) = F108 := by kernel_rfl
theorem F108_ok {c0 : ByteArray} {c1 : ByteArray} {c2 : Bool} {h : Heap} {Q : Value → Heap → Prop} (H : F108 c0 c1 c2 h Q) : CallsH Tryz.prog 108 [.agg #[.string c0, .string c1, .bool c2]] h Q :=
  callsH_of (ann := fun _ => annNil) (tys := fun _ => []) (pl := fun _ => none) Tryz.func108 (by kernel_rfl) (by have e := F108_eq; exact (congrFun (congrFun (congrFun (congrFun (congrFun (e) c0) c1) c2) h) Q).symm ▸ H)

/-- (*headgate/table.Table[string]).Copy -/
def F109 (t0 : Option Addr) (h : Heap) (Q : Value → Heap → Prop) : Prop :=
  (bif (t0).isNone then
    CallsH Tryz.prog 34 [.slice none 0 0] h fun r0 h_0 =>
    DP r0 fun x0 =>
    Q (.pointer x0) h_0
  else
    NN' t0 fun a0 =>
    Ld h (a0.add 0) fun v0 => DM v0 fun x1 =>
    NN' t0 fun a1 =>
    Ld h (a1.add 1) fun v1 => DSl v1 fun x2a x2l x2c =>
    NN' t0 fun a2 =>
    Ld h (a2.add 2) fun v2 => DB v2 fun x3 =>
    CallsH Tryz.prog 158 [.map x1] h fun r1 h_1 =>
    DM r1 fun x4 =>
    (SameV (some (.pointer t0)) (.pointer t0)) ∧
    (NN' t0 fun a3 =>
    SameV (some (.pointer (some a1))) (.pointer (some a3))) ∧
    (SameV (some (.pointer (some (a1.add 1)))) (.pointer (some (a1.add 1)))) ∧
    (Ld h_1 (a1.add 1) fun v3 => DSl v3 fun x5a x5l x5c =>
    SameV (some (.slice x2a x2l x2c)) (.slice x5a x5l x5c)) ∧
    (SameV (some (.pointer t0)) (.pointer t0)) ∧
    (NN' t0 fun a4 =>
    SameV (some (.pointer (some a2))) (.pointer (some a4))) ∧
    (SameV (some (.pointer (some (a2.add 2)))) (.pointer (some (a2.add 2)))) ∧
    (Ld h_1 (a2.add 2) fun v4 => DB v4 fun x6 =>
    SameV (some (.bool x3)) (.bool x6)) ∧
    Al h_1 (.cells #[.map x4, .slice x2a x2l x2c, .bool x3] 177) fun b0 h_2 =>
    Q (.pointer (some (Addr.mk b0 0 none))) h_2)
theorem F109_eq : (fun (t0 : Option Addr) (h : Heap) (Q : Value → Heap → Prop) => fnPT Tryz.prog Tryz.f109 (fun _ => annNil) (fun _ => []) (fun i => bif Nat.beq i 3 then some ⟨[0, 1, 3, 7, 15, 0, 32, 96, 224, 0, 512, 1536, 3584, 8191, 16383, 32767], 16400⟩ else none) [.pointer t0] h Q) = F109 := by kernel_rfl
theorem F109_ok {t0 : Option Addr} {h : Heap} {Q : Value → Heap → Prop} (H : F109 t0 h Q) : CallsH Tryz.prog 109 [.pointer t0] h Q :=
  callsH_of (ann := fun _ => annNil) (tys := fun _ => []) (pl := fun i => bif Nat.beq i 3 then some ⟨[0, 1, 3, 7, 15, 0, 32, 96, 224, 0, 512, 1536, 3584, 8191, 16383, 32767], 16400⟩ else none) Tryz.func109 (by kernel_rfl) (by have e := F109_eq; exact (congrFun (congrFun (congrFun (e) t0) h) Q).symm ▸ H)

/-- (*headgate/table.Table[string]).Del -/
def F110 (t0 : Option Addr) (key0 : ByteArray) (h : Heap) (Q : Value → Heap → Prop) : Prop :=
  CallsH Tryz.prog 55 [.pointer t0, .string key0] h fun r0 h_0 =>
  ∃ (x0 : ByteArray), ∃ (x1 : Bool), r0 = .tuple #[.string x0, .bool x1] ∧
  (bif !x1 then
    Q (.bool false) h_0
  else
    NN' t0 fun a0 =>
    Ld h_0 (a0.add 0) fun v0 => DM v0 fun x2 =>
    RunH Tryz.prog (Builtin.delete_ #[175, 9] 0 #[.map x2, .string key0]) h_0 fun r1 h_1 =>
    NN' t0 fun a1 =>
    StC h_1 ((a1.add 2).add 0) (.bool false) fun h_3 =>
    Q (.bool true) h_3)
theorem F110_eq : (fun (t0 : Option Addr) (key0 : ByteArray) (h : Heap) (Q : Value → Heap → Prop) => fnPT Tryz.prog Tryz.f110 (fun _ => annNil) (fun _ => []) (fun _ => none) [.pointer t0, .string key0] h Q) = F110 := by kernel_rfl
theorem F110_ok {t0 : Option Addr} {key0 : ByteArray} {h : Heap} {Q : Value → Heap → Prop} (H : F110 t0 key0 h Q) : CallsH Tryz.prog 110 [.pointer t0, .string key0] h Q :=
  callsH_of (ann := fun _ => annNil) (tys := fun _ => []) (pl := fun _ => none) Tryz.func110 (by kernel_rfl) (by have e := F110_eq; exact (congrFun (congrFun (congrFun (congrFun (e) t0) key0) h) Q).symm ▸ H)

/-- headgate/code.Pairs -/
def F113 (l_0a : Option Addr) (l_0l : Nat) (l_0c : Nat) (h : Heap) (Q : Value → Heap → Prop) : Prop :=
  CallsH Tryz.prog 162 [.slice l_0a l_0l l_0c, .func (.func 163) #[] #[]] h fun r0 h_0 =>
  DSl r0 fun x0a x0l x0c =>
  CallsH Tryz.prog 161 [.slice x0a x0l x0c] h_0 fun r1 h_1 =>
  ∃ (x1a : Option Addr), ∃ (x1l : Nat), ∃ (x1c : Nat), ∃ (x2 : Int), r1 = .tuple #[.slice x1a x1l x1c, .int .i64 x2] ∧
  Q (.tuple #[.slice x1a x1l x1c, .int .i64 x2]) h_1
theorem F113_eq : (fun (l_0a : Option Addr) (l_0l : Nat) (l_0c : Nat) (h : Heap) (Q : Value → Heap → Prop) => fnPT Tryz.prog Tryz.f113 (fun _ => annNil) (fun _ => []) (fun _ => none) [.slice l_0a l_0l l_0c] h Q) = F113 := by kernel_rfl
theorem F113_ok {l_0a : Option Addr} {l_0l : Nat} {l_0c : Nat} {h : Heap} {Q : Value → Heap → Prop} (H : F113 l_0a l_0l l_0c h Q) : CallsH Tryz.prog 113 [.slice l_0a l_0l l_0c] h Q :=
  callsH_of (ann := fun _ => annNil) (tys := fun _ => []) (pl := fun _ => none) Tryz.func113 (by kernel_rfl) (by have e := F113_eq; exact (congrFun (congrFun (congrFun (congrFun (congrFun (e) l_0a) l_0l) l_0c) h) Q).symm ▸ H)

/-- (*headgate/table.Table[string]).From -/
def F115 (t0 : Option Addr) (key0 : ByteArray) (h : Heap) (Q : Value → Heap → Prop) : Prop :=
  CallsH Tryz.prog 109 [.pointer t0] h fun r0 h_0 =>
  DP r0 fun c0 =>
  CallsH Tryz.prog 167 [.pointer c0] h_0 fun r1 h_1 =>
  DSl r1 fun keys0a keys0l keys0c =>
  CallsH Tryz.prog 168 [.slice keys0a keys0l keys0c, .string key0] h_1 fun r2 h_2 =>
  ∃ (x0 : Int), ∃ (x1 : Bool), r2 = .tuple #[.int .i64 x0, .bool x1] ∧
  SlV keys0a keys0c 1 x0 (keys0l : Int) (keys0c : Int) fun s0a s0l s0c =>
  NN' c0 fun a0 =>
  Ld h_2 (a0.add 0) fun v0 => DM v0 fun x2 =>
  CallsH Tryz.prog 169 [.slice s0a s0l s0c, .map x2] h_2 fun r3 h_3 =>
  ∃ (x3 : Value), r3 = x3 ∧
  Q x3 h_3
theorem F115_eq : (fun (t0 : Option Addr) (key0 : ByteArray) (h : Heap) (Q : Value → Heap → Prop) => fnPT Tryz.prog Tryz.f115 (fun _ => annNil) (fun _ => []) (fun i => bif Nat.beq i 4 then some ⟨[0, 0, 3, 0, 8, 24, 56, 127, 255], 128⟩ else none) [.pointer t0, .string key0] h Q) = F115 := by kernel_rfl
theorem F115_ok {t0 : Option Addr} {key0 : ByteArray} {h : Heap} {Q : Value → Heap → Prop} (H : F115 t0 key0 h Q) : CallsH Tryz.prog 115 [.pointer t0, .string key0] h Q :=
  callsH_of (ann := fun _ => annNil) (tys := fun _ => []) (pl := fun i => bif Nat.beq i 4 then some ⟨[0, 0, 3, 0, 8, 24, 56, 127, 255], 128⟩ else none) Tryz.func115 (by kernel_rfl) (by have e := F115_eq; exact (congrFun (congrFun (congrFun (congrFun (e) t0) key0) h) Q).symm ▸ H)

/-- slices.Collect[int64] -/
def F116 (seq0 : Value) (h : Heap) (Q : Value → Heap → Prop) : Prop :=
  CallsH Tryz.prog 170 [.slice none 0 0, seq0] h fun r0 h_0 =>
  DSl r0 fun x0a x0l x0c =>
  Q (.slice x0a x0l x0c) h_0
theorem F116_eq : (fun (seq0 : Value) (h : Heap) (Q : Value → Heap → Prop) => fnPT Tryz.prog Tryz.f116 (fun _ => annNil) (fun _ => []) (fun _ => none) [seq0] h Q) = F116 := by kernel_rfl
theorem F116_ok {seq0 : Value} {h : Heap} {Q : Value → Heap → Prop} (H : F116 seq0 h Q) : CallsH Tryz.prog 116 [seq0] h Q :=
  callsH_of (ann := fun _ => annNil) (tys := fun _ => []) (pl := fun _ => none) Tryz.func116 (by kernel_rfl) (by have e := F116_eq; exact (congrFun (congrFun (congrFun (e) seq0) h) Q).symm ▸ H)

/-- maps.Keys[headgate/state.numbers,int64,struct{}]$1 -/
def F118 (yield0 : Value) (c0 : Addr) (h : Heap) (Q : Value → Heap → Prop) : Prop :=
  Ld h c0 fun v0 => DM v0 fun x0 =>
  RunH Tryz.prog (Instr.range 84 (.map x0)) h fun r0 h_0 =>
  DP r0 fun p0 =>
  LoopH (fun again0 (s0 : Unit) h_1 =>
    RunH Tryz.prog (Instr.next (.pointer p0) false 0) h_1 fun r1 h_2 =>
    (
      r1 = .tuple #[.bool false] ∧
      Q (.tuple #[]) h_2) ∨ (
      ∃ (k0 x1 : Value), r1 = .tuple #[.bool true, k0, x1] ∧
      RunH Tryz.prog (Instr.entry (.pointer p0)) h_2 fun r2 h_3 =>
      ∃ (x2 : Int), ∃ (x3 : Value), r2 = .tuple #[.int .i64 x2, x3] ∧
      CallV Tryz.prog yield0 [.int .i64 x2] h_3 fun r3 h_4 =>
      DB r3 fun x4 =>
      (bif !x4 then
        Q (.tuple #[]) h_4
      else
        again0 () h_4))) () h_0
theorem F118_eq : (fun (yield0 : Value) (c0 : Addr) (h : Heap) (Q : Value → Heap → Prop) => fnPT Tryz.prog Tryz.f118 (fun i => bif Nat.beq i 0 then annNil else annNil) (fun i => bif Nat.beq i 1002 then [2, 0] else []) (fun _ => none) [yield0, .pointer (some c0)] h Q) = F118 := by kernel_rfl
theorem F118_ok {yield0 : Value} {c0 : Addr} {h : Heap} {Q : Value → Heap → Prop} (H : F118 yield0 c0 h Q) : CallsH Tryz.prog 118 [yield0, .pointer (some c0)] h Q :=
  callsH_of (ann := fun i => bif Nat.beq i 0 then annNil else annNil) (tys := fun i => bif Nat.beq i 1002 then [2, 0] else []) (pl := fun _ => none) Tryz.func118 (by kernel_rfl) (by have e := F118_eq; exact (congrFun (congrFun (congrFun (congrFun (e) yield0) c0) h) Q).symm ▸ H)

/-- headgate/code.read[headgate/api.Pair] -/
def F153 (b0a : Option Addr) (b0l : Nat) (b0c : Nat) (next0 : Value) (h : Heap) (Q : Value → Heap → Prop) : Prop :=
  Al h (.cells #[.slice none 0 0] 41) fun b1 h_0 =>
  Al h_0 (.cells #[.int .i64 0] 25) fun b2 h_1 =>
  Al h_1 (.cells #[.slice b0a b0l b0c] 271) fun b3 h_2 =>
  CallV Tryz.prog next0 [.pointer (some (Addr.mk b3 0 none))] h_2 fun r3 h_3 =>
  DSl r3 fun x0a x0l x0c =>
  StC h_3 ((Addr.mk b1 0 none).add 0) (.slice x0a x0l x0c) fun h_5 =>
  Ld h_5 ((Addr.mk b3 0 none).add 0) fun v0 => DSl v0 fun x1a x1l x1c =>
  (bif decide (((x1l : Int) : Int) > 0) then
    False
    
  else
    (bif decide (((b0l : Int) : Int) > 16777216) then
      False
      
    else
      Ld h_5 (Addr.mk b1 0 none) fun v1 => DSl v1 fun x2a x2l x2c =>
      StC h_5 ((Addr.mk b1 0 none).add 0) (.slice x2a x2l x2c) fun h_9 =>
      StC h_9 ((Addr.mk b2 0 none).add 0) (.int .i64 0) fun h_11 =>
      DeferH Tryz.prog 197 [.pointer (some (Addr.mk b1 0 none)), .pointer (some (Addr.mk b2 0 none))] h_11 fun h_12 =>
      Ld h_12 (Addr.mk b1 0 none) fun v2 => DSl v2 fun res0a res0l res0c =>
      Ld h_12 (Addr.mk b2 0 none) fun v3 => DI .i64 v3 fun res1 =>
      Q (.tuple #[.slice res0a res0l res0c, .int .i64 res1]) h_12))
theorem F153_eq : (fun (b0a : Option Addr) (b0l : Nat) (b0c : Nat) (next0 : Value) (h : Heap) (Q : Value → Heap → Prop) => fnPTd Tryz.prog Tryz.f153 (fun _ => annNil) (fun _ => []) (fun _ => none) [.slice b0a b0l b0c, next0] h Q) = F153 := by kernel_rfl
theorem F153_ok {b0a : Option Addr} {b0l : Nat} {b0c : Nat} {next0 : Value} {h : Heap} {Q : Value → Heap → Prop} (H : F153 b0a b0l b0c next0 h Q) : CallsH Tryz.prog 153 [.slice b0a b0l b0c, next0] h Q :=
  callsHd_of (ann := fun _ => annNil) (tys := fun _ => []) (pl := fun _ => none) Tryz.func153 (by kernel_rfl) (by have e := F153_eq; exact (congrFun (congrFun (congrFun (congrFun (congrFun (congrFun (e) b0a) b0l) b0c) next0) h) Q).symm ▸ H)

/-- headgate/code.Unpairs$1 -/
def F154 (r0 : Option Addr) (h : Heap) (Q : Value → Heap → Prop) : Prop :=
  Al h (.cells #[.pointer r0] 230) fun b0 h_0 =>
  Ld h_0 (Addr.mk b0 0 none) fun v0 => DP v0 fun x0 =>
  CallsH Tryz.prog 155 [.pointer x0, .func (.func 156) #[] #[.pointer (some (Addr.mk b0 0 none))]] h_0 fun r2 h_1 =>
  DSl r2 fun x1a x1l x1c =>
  Q (.slice x1a x1l x1c) h_1
theorem F154_eq : (fun (r0 : Option Addr) (h : Heap) (Q : Value → Heap → Prop) => fnPT Tryz.prog Tryz.f154 (fun _ => annNil) (fun _ => []) (fun _ => none) [.pointer r0] h Q) = F154 := by kernel_rfl
theorem F154_ok {r0 : Option Addr} {h : Heap} {Q : Value → Heap → Prop} (H : F154 r0 h Q) : CallsH Tryz.prog 154 [.pointer r0] h Q :=
  callsH_of (ann := fun _ => annNil) (tys := fun _ => []) (pl := fun _ => none) Tryz.func154 (by kernel_rfl) (by have e := F154_eq; exact (congrFun (congrFun (congrFun (e) r0) h) Q).symm ▸ H)

/-- headgate/code.items[headgate/api.Pair] -/
def F155 (r0 : Option Addr) (next0 : Value) (h : Heap) (Q : Value → Heap → Prop) : Prop :=
  CallsH Tryz.prog 198 [.pointer r0] h fun r1 h_0 =>
  DI .u64 r1 fun n0 =>
  NN' r0 fun a0 =>
  Ld h_0 (a0.add 0) fun v0 => DSl v0 fun x0a x0l x0c =>
  (bif decide ((n0 : Int) > (IntKind.wrap .u64 (x0l : Int))) then
    False
    
  else
    LoopH (fun again0 (s0 : Sl × Int) h_2 =>
      (bif decide ((s0.2 : Int) < n0) then
        CallV Tryz.prog next0 [] h_2 fun r3 h_3 =>
        ∃ (x1 : ByteArray), ∃ (x2 : ByteArray), r3 = .agg #[.string x1, .string x2] ∧
        Al h_3 (.cells #[.string x1, .string x2] 50) fun b0 h_4 =>
        RunH Tryz.prog (Builtin.append_ #[41, 41] 41 #[.slice s0.1.a s0.1.l s0.1.c, .slice (some (Addr.mk b0 0 none)) 1 1]) h_4 fun r5 h_5 =>
        DSl r5 fun l_0a l_0l l_0c =>
        again0 (⟨l_0a, l_0l, l_0c⟩, IntKind.wrap .u64 (s0.2 + 1)) h_5
      else
        Q (.slice s0.1.a s0.1.l s0.1.c) h_2)) (⟨none, 0, 0⟩, 0) h_0)
theorem F155_eq : (fun (r0 : Option Addr) (next0 : Value) (h : Heap) (Q : Value → Heap → Prop) => fnPT Tryz.prog Tryz.f155 (fun i => bif Nat.beq i 0 then annCons 6 (codSl) (annOne 20 (codI .u64)) else annNil) (fun _ => []) (fun _ => none) [.pointer r0, next0] h Q) = F155 := by kernel_rfl
theorem F155_ok {r0 : Option Addr} {next0 : Value} {h : Heap} {Q : Value → Heap → Prop} (H : F155 r0 next0 h Q) : CallsH Tryz.prog 155 [.pointer r0, next0] h Q :=
  callsH_of (ann := fun i => bif Nat.beq i 0 then annCons 6 (codSl) (annOne 20 (codI .u64)) else annNil) (tys := fun _ => []) (pl := fun _ => none) Tryz.func155 (by kernel_rfl) (by have e := F155_eq; exact (congrFun (congrFun (congrFun (congrFun (e) r0) next0) h) Q).symm ▸ H)

/-- headgate/code.Unpairs$1$1 -/
def F156 (c0 : Addr) (h : Heap) (Q : Value → Heap → Prop) : Prop :=
  Al h (.cells #[.string .empty, .string .empty] 50) fun b0 h_0 =>
  Ld h_0 c0 fun v0 => DP v0 fun x0 =>
  Ld h_0 c0 fun v1 => DP v1 fun x1 =>
  CallsH Tryz.prog 157 [.pointer x0] h_0 fun r1 h_1 =>
  DS r1 fun x2 =>
  (Ld h_1 c0 fun v2 => DP v2 fun x3 =>
  SameV (some (.pointer x1)) (.pointer x3)) ∧
  CallsH Tryz.prog 157 [.pointer x1] h_1 fun r2 h_2 =>
  DS r2 fun x4 =>
  StC h_2 ((Addr.mk b0 0 none).add 0) (.string x2) fun h_4 =>
  StC h_4 ((Addr.mk b0 0 none).add 1) (.string x4) fun h_5 =>
  Ld h_5 ((Addr.mk b0 0 none).add 0) fun c1 =>
  Ld h_5 ((Addr.mk b0 0 none).add 1) fun c2 =>
  ∃ (res0 : ByteArray), ∃ (res1 : ByteArray), (Value.agg #[c1, c2]) = .agg #[.string res0, .string res1] ∧
  Q (.agg #[.string res0, .string res1]) h_5
theorem F156_eq : (fun (c0 : Addr) (h : Heap) (Q : Value → Heap → Prop) => fnPT Tryz.prog Tryz.f156 (fun _ => annNil) (fun _ => []) (fun i => bif Nat.beq i 1 then some ⟨[0, 1, 0, 7, 15, 31], 42⟩ else none) [.pointer (some c0)] h Q) = F156 := by kernel_rfl
theorem F156_ok {c0 : Addr} {h : Heap} {Q : Value → Heap → Prop} (H : F156 c0 h Q) : CallsH Tryz.prog 156 [.pointer (some c0)] h Q :=
  callsH_of (ann := fun _ => annNil) (tys := fun _ => []) (pl := fun i => bif Nat.beq i 1 then some ⟨[0, 1, 0, 7, 15, 31], 42⟩ else none) Tryz.func156 (by kernel_rfl) (by have e := F156_eq; exact (congrFun (congrFun (congrFun (e) c0) h) Q).symm ▸ H)

/-- (*headgate/code.reader).word -/
def F157 (r0 : Option Addr) (h : Heap) (Q : Value → Heap → Prop) : Prop :=
  CallsH Tryz.prog 198 [.pointer r0] h fun r1 h_0 =>
  DI .u64 r1 fun x0 =>
  CallsH Tryz.prog 199 [.pointer r0, .int .u64 x0] h_0 fun r2 h_1 =>
  DSl r2 fun x1a x1l x1c =>
  ∃ bs0 : ByteArray, BytesIn h_1 x1a x1l bs0 ∧
  Q (.string bs0) h_1
theorem F157_eq : (fun (r0 : Option Addr) (h : Heap) (Q : Value → Heap → Prop) => fnPT Tryz.prog Tryz.f157 (fun _ => annNil) (fun _ => []) (fun _ => none) [.pointer r0] h Q) = F157 := by kernel_rfl
theorem F157_ok {r0 : Option Addr} {h : Heap} {Q : Value → Heap → Prop} (H : F157 r0 h Q) : CallsH Tryz.prog 157 [.pointer r0] h Q :=
  callsH_of (ann := fun _ => annNil) (tys := fun _ => []) (pl := fun _ => none) Tryz.func157 (by kernel_rfl) (by have e := F157_eq; exact (congrFun (congrFun (congrFun (e) r0) h) Q).symm ▸ H)

/-- headgate/code.told -/
def F161 (b0a : Option Addr) (b0l : Nat) (b0c : Nat) (h : Heap) (Q : Value → Heap → Prop) : Prop :=
  (bif decide (((b0l : Int) : Int) > 16777216) then
    Q (.tuple #[.slice none 0 0, .int .i64 42]) h
  else
    Q (.tuple #[.slice b0a b0l b0c, .int .i64 0]) h)
theorem F161_eq : (fun (b0a : Option Addr) (b0l : Nat) (b0c : Nat) (h : Heap) (Q : Value → Heap → Prop) => fnPT Tryz.prog Tryz.f161 (fun _ => annNil) (fun _ => []) (fun _ => none) [.slice b0a b0l b0c] h Q) = F161 := by kernel_rfl
theorem F161_ok {b0a : Option Addr} {b0l : Nat} {b0c : Nat} {h : Heap} {Q : Value → Heap → Prop} (H : F161 b0a b0l b0c h Q) : CallsH Tryz.prog 161 [.slice b0a b0l b0c] h Q :=
  callsH_of (ann := fun _ => annNil) (tys := fun _ => []) (pl := fun _ => none) Tryz.func161 (by kernel_rfl) (by have e := F161_eq; exact (congrFun (congrFun (congrFun (congrFun (congrFun (e) b0a) b0l) b0c) h) Q).symm ▸ H)

/-- headgate/code.List[headgate/api.Pair] -/
def F162 (l_0a : Option Addr) (l_0l : Nat) (l_0c : Nat) (one0 : Value) (h : Heap) (Q : Value → Heap → Prop) : Prop :=
  CallsH Tryz.prog 203 [.int .u64 (IntKind.wrap .u64 (l_0l : Int))] h fun r0 h_0 =>
  DSl r0 fun b0a b0l b0c =>
  LoopH (fun again0 (s0 : Sl × Int) h_1 =>
    (bif decide ((s0.2 : Int) < (l_0l : Int)) then
      IdxA l_0a l_0l s0.2 2 fun a0 =>
      Ld h_1 (a0.add 0) fun c0 =>
      Ld h_1 (a0.add 1) fun c1 =>
      ∃ (x0 : ByteArray), ∃ (x1 : ByteArray), (Value.agg #[c0, c1]) = .agg #[.string x0, .string x1] ∧
      Al h_1 (.cells #[.string .empty, .string .empty] 50) fun b1 h_2 =>
      StC h_2 ((Addr.mk b1 0 none).add 0) (.string x0) fun h_4 =>
      StC h_4 ((Addr.mk b1 0 none).add 1) (.string x1) fun h_5 =>
      Ld h_5 ((Addr.mk b1 0 none).add 0) fun c2 =>
      Ld h_5 ((Addr.mk b1 0 none).add 1) fun c3 =>
      ∃ (x2 : ByteArray), ∃ (x3 : ByteArray), (Value.agg #[c2, c3]) = .agg #[.string x2, .string x3] ∧
      CallV Tryz.prog one0 [.agg #[.string x2, .string x3]] h_5 fun r3 h_6 =>
      DSl r3 fun x4a x4l x4c =>
      RunH Tryz.prog (Builtin.append_ #[35, 35] 35 #[.slice s0.1.a s0.1.l s0.1.c, .slice x4a x4l x4c]) h_6 fun r4 h_7 =>
      DSl r4 fun b2a b2l b2c =>
      again0 (⟨b2a, b2l, b2c⟩, IntKind.wrap .i64 (s0.2 + 1)) h_7
    else
      Q (.slice s0.1.a s0.1.l s0.1.c) h_1)) (⟨b0a, b0l, b0c⟩, 0) h_0
theorem F162_eq : (fun (l_0a : Option Addr) (l_0l : Nat) (l_0c : Nat) (one0 : Value) (h : Heap) (Q : Value → Heap → Prop) => fnPT Tryz.prog Tryz.f162 (fun i => bif Nat.beq i 0 then annCons 5 (codSl) (annOne 14 (codI .i64)) else annNil) (fun _ => []) (fun _ => none) [.slice l_0a l_0l l_0c, one0] h Q) = F162 := by kernel_rfl
theorem F162_ok {l_0a : Option Addr} {l_0l : Nat} {l_0c : Nat} {one0 : Value} {h : Heap} {Q : Value → Heap → Prop} (H : F162 l_0a l_0l l_0c one0 h Q) : CallsH Tryz.prog 162 [.slice l_0a l_0l l_0c, one0] h Q :=
  callsH_of (ann := fun i => bif Nat.beq i 0 then annCons 5 (codSl) (annOne 14 (codI .i64)) else annNil) (tys := fun _ => []) (pl := fun _ => none) Tryz.func162 (by kernel_rfl) (by have e := F162_eq; exact (congrFun (congrFun (congrFun (congrFun (congrFun (congrFun (e) l_0a) l_0l) l_0c) one0) h) Q).symm ▸ H)

/-- headgate/code.Pairs$1 -/
def F163 (p0 : ByteArray) (p1 : ByteArray) (h : Heap) (Q : Value → Heap → Prop) : Prop :=
  Al h (.cells #[.string p0, .string p1] 50) fun b0 h_0 =>
  Ld h_0 ((Addr.mk b0 0 none).add 0) fun v0 => DS v0 fun x0 =>
  Ld h_0 ((Addr.mk b0 0 none).add 1) fun v1 => DS v1 fun x1 =>
  CallsH Tryz.prog 164 [.string x0] h_0 fun r1 h_1 =>
  DSl r1 fun x2a x2l x2c =>
  (SameV (some (.pointer (some ((Addr.mk b0 0 none).add 1)))) (.pointer (some ((Addr.mk b0 0 none).add 1)))) ∧
  (Ld h_1 ((Addr.mk b0 0 none).add 1) fun v2 => DS v2 fun x3 =>
  SameV (some (.string x1)) (.string x3)) ∧
  CallsH Tryz.prog 164 [.string x1] h_1 fun r2 h_2 =>
  DSl r2 fun x4a x4l x4c =>
  RunH Tryz.prog (Builtin.append_ #[35, 35] 35 #[.slice x2a x2l x2c, .slice x4a x4l x4c]) h_2 fun r3 h_3 =>
  DSl r3 fun x5a x5l x5c =>
  Q (.slice x5a x5l x5c) h_3
theorem F163_eq : (fun (p0 : ByteArray) (p1 : ByteArray) (h : Heap) (Q : Value → Heap → Prop) => fnPT Tryz.prog Tryz.f163 (fun _ => annNil) (fun _ => []) (fun i => bif Nat.beq i 1 then some ⟨[0, 1, 3, 0, 8, 31, 63, 127], 100⟩ else none) [.agg #[.string p0, .string p1]] h Q) = F163 := by kernel_rfl
theorem F163_ok {p0 : ByteArray} {p1 : ByteArray} {h : Heap} {Q : Value → Heap → Prop} (H : F163 p0 p1 h Q) : CallsH Tryz.prog 163 [.agg #[.string p0, .string p1]] h Q :=
  callsH_of (ann := fun _ => annNil) (tys := fun _ => []) (pl := fun i => bif Nat.beq i 1 then some ⟨[0, 1, 3, 0, 8, 31, 63, 127], 100⟩ else none) Tryz.func163 (by kernel_rfl) (by have e := F163_eq; exact (congrFun (congrFun (congrFun (congrFun (e) p0) p1) h) Q).symm ▸ H)

/-- headgate/code.word -/
def F164 (s0 : ByteArray) (h : Heap) (Q : Value → Heap → Prop) : Prop :=
  CallsH Tryz.prog 203 [.int .u64 (IntKind.wrap .u64 ((s0 : ByteArray).size : Int))] h fun r0 h_0 =>
  DSl r0 fun x0a x0l x0c =>
  RunH Tryz.prog (Builtin.append_ #[35, 9] 35 #[.slice x0a x0l x0c, .string s0]) h_0 fun r1 h_1 =>
  DSl r1 fun x1a x1l x1c =>
  Q (.slice x1a x1l x1c) h_1
theorem F164_eq : (fun (s0 : ByteArray) (h : Heap) (Q : Value → Heap → Prop) => fnPT Tryz.prog Tryz.f164 (fun _ => annNil) (fun _ => []) (fun _ => none) [.string s0] h Q) = F164 := by kernel_rfl
theorem F164_ok {s0 : ByteArray} {h : Heap} {Q : Value → Heap → Prop} (H : F164 s0 h Q) : CallsH Tryz.prog 164 [.string s0] h Q :=
  callsH_of (ann := fun _ => annNil) (tys := fun _ => []) (pl := fun _ => none) Tryz.func164 (by kernel_rfl) (by have e := F164_eq; exact (congrFun (congrFun (congrFun (e) s0) h) Q).symm ▸ H)

/-- (*headgate/table.Table[string]).order -/
def F167 (t0 : Option Addr) (h : Heap) (Q : Value → Heap → Prop) : Prop :=
  (bif (t0).isNone then
    Q (.slice none 0 0) h
  else
    NN' t0 fun a0 =>
    Ld h (a0.add 2) fun v0 => DB v0 fun x0 =>
    (bif !x0 then
      NN' t0 fun a1 =>
      Ld h (a1.add 0) fun v1 => DM v1 fun x1 =>
      CallsH Tryz.prog 214 [.map x1] h fun r0 h_0 =>
      ∃ (x2 : Value), r0 = x2 ∧
      CallsH Tryz.prog 62 [x2] h_0 fun r1 h_1 =>
      DSl r1 fun x3a x3l x3c =>
      NN' t0 fun a2 =>
      StC h_1 ((a2.add 1).add 0) (.slice x3a x3l x3c) fun h_3 =>
      NN' t0 fun a3 =>
      StC h_3 ((a3.add 2).add 0) (.bool true) fun h_5 =>
      NN' t0 fun a4 =>
      Ld h_5 (a4.add 1) fun v2 => DSl v2 fun x4a x4l x4c =>
      Q (.slice x4a x4l x4c) h_5
    else
      NN' t0 fun a5 =>
      Ld h (a5.add 1) fun v3 => DSl v3 fun x5a x5l x5c =>
      Q (.slice x5a x5l x5c) h))
theorem F167_eq : (fun (t0 : Option Addr) (h : Heap) (Q : Value → Heap → Prop) => fnPT Tryz.prog Tryz.f167 (fun _ => annNil) (fun _ => []) (fun _ => none) [.pointer t0] h Q) = F167 := by kernel_rfl
theorem F167_ok {t0 : Option Addr} {h : Heap} {Q : Value → Heap → Prop} (H : F167 t0 h Q) : CallsH Tryz.prog 167 [.pointer t0] h Q :=
  callsH_of (ann := fun _ => annNil) (tys := fun _ => []) (pl := fun _ => none) Tryz.func167 (by kernel_rfl) (by have e := F167_eq; exact (congrFun (congrFun (congrFun (e) t0) h) Q).symm ▸ H)

/-- slices.BinarySearch[[]string,string] -/
def F168 (x0a : Option Addr) (x0l : Nat) (x0c : Nat) (target0 : ByteArray) (h : Heap) (Q : Value → Heap → Prop) : Prop :=
  LoopH (fun again0 (s0 : Int × Int) h_0 =>
    (bif decide ((s0.1 : Int) < s0.2) then
      0 ≤ (1 : Int) ∧
      IdxA x0a x0l (IntKind.wrap .i64 (shrI .u64 (IntKind.wrap .u64 (IntKind.wrap .i64 (s0.1 + s0.2))) 1)) 1 fun a0 =>
      Ld h_0 a0 fun v0 => DS v0 fun x1 =>
      CallsH Tryz.prog 215 [.string x1, .string target0] h_0 fun r0 h_1 =>
      DB r0 fun x2 =>
      (bif x2 then
        again0 (IntKind.wrap .i64 ((IntKind.wrap .i64 (shrI .u64 (IntKind.wrap .u64 (IntKind.wrap .i64 (s0.1 + s0.2))) 1)) + 1), s0.2) h_1
      else
        again0 (s0.1, IntKind.wrap .i64 (shrI .u64 (IntKind.wrap .u64 (IntKind.wrap .i64 (s0.1 + s0.2))) 1)) h_1)
    else
      (bif decide ((s0.1 : Int) < (x0l : Int)) then
        IdxA x0a x0l s0.1 1 fun a1 =>
        Ld h_0 a1 fun v1 => DS v1 fun x3 =>
        (bif strEq x3 target0 then
          Q (.tuple #[.int .i64 s0.1, .bool true]) h_0
        else
          IdxA x0a x0l s0.1 1 fun a2 =>
          Ld h_0 a2 fun v2 => DS v2 fun x4 =>
          CallsH Tryz.prog 216 [.string x4] h_0 fun r1 h_2 =>
          DB r1 fun x5 =>
          (bif x5 then
            CallsH Tryz.prog 216 [.string target0] h_2 fun r2 h_3 =>
            DB r2 fun x6 =>
            Q (.tuple #[.int .i64 s0.1, .bool x6]) h_3
          else
            Q (.tuple #[.int .i64 s0.1, .bool false]) h_2))
      else
        Q (.tuple #[.int .i64 s0.1, .bool false]) h_0))) (0, (x0l : Int)) h
theorem F168_eq : (fun (x0a : Option Addr) (x0l : Nat) (x0c : Nat) (target0 : ByteArray) (h : Heap) (Q : Value → Heap → Prop) => fnPT Tryz.prog Tryz.f168 (fun i => bif Nat.beq i 0 then annCons 7 (codI .i64) (annOne 8 (codI .i64)) else annNil) (fun _ => []) (fun _ => none) [.slice x0a x0l x0c, .string target0] h Q) = F168 := by kernel_rfl
theorem F168_ok {x0a : Option Addr} {x0l : Nat} {x0c : Nat} {target0 : ByteArray} {h : Heap} {Q : Value → Heap → Prop} (H : F168 x0a x0l x0c target0 h Q) : CallsH Tryz.prog 168 [.slice x0a x0l x0c, .string target0] h Q :=
  callsH_of (ann := fun i => bif Nat.beq i 0 then annCons 7 (codI .i64) (annOne 8 (codI .i64)) else annNil) (tys := fun _ => []) (pl := fun _ => none) Tryz.func168 (by kernel_rfl) (by have e := F168_eq; exact (congrFun (congrFun (congrFun (congrFun (congrFun (congrFun (e) x0a) x0l) x0c) target0) h) Q).symm ▸ H)

/-- headgate/table.over[string] -/
def F169 (keys0a : Option Addr) (keys0l : Nat) (keys0c : Nat) (m0 : Option Nat) (h : Heap) (Q : Value → Heap → Prop) : Prop :=
  Al h (.cells #[.slice keys0a keys0l keys0c] 97) fun b0 h_0 =>
  Al h_0 (.cells #[.map m0] 175) fun b1 h_1 =>
  Q (.func (.func 217) #[] #[.pointer (some (Addr.mk b0 0 none)), .pointer (some (Addr.mk b1 0 none))]) h_1
theorem F169_eq : (fun (keys0a : Option Addr) (keys0l : Nat) (keys0c : Nat) (m0 : Option Nat) (h : Heap) (Q : Value → Heap → Prop) => fnPT Tryz.prog Tryz.f169 (fun _ => annNil) (fun _ => []) (fun _ => none) [.slice keys0a keys0l keys0c, .map m0] h Q) = F169 := by kernel_rfl
theorem F169_ok {keys0a : Option Addr} {keys0l : Nat} {keys0c : Nat} {m0 : Option Nat} {h : Heap} {Q : Value → Heap → Prop} (H : F169 keys0a keys0l keys0c m0 h Q) : CallsH Tryz.prog 169 [.slice keys0a keys0l keys0c, .map m0] h Q :=
  callsH_of (ann := fun _ => annNil) (tys := fun _ => []) (pl := fun _ => none) Tryz.func169 (by kernel_rfl) (by have e := F169_eq; exact (congrFun (congrFun (congrFun (congrFun (congrFun (congrFun (e) keys0a) keys0l) keys0c) m0) h) Q).symm ▸ H)

/-- slices.AppendSeq[[]int64,int64] -/
def F170 (s0a : Option Addr) (s0l : Nat) (s0c : Nat) (seq0 : Value) (h : Heap) (Q : Value → Heap → Prop) : Prop :=
  Al h (.cells #[.slice s0a s0l s0c] 76) fun b0 h_0 =>
  RangeFn Tryz.prog seq0 1 none h_0 (fun l_0 rec_0 args0 h_1 Q_0 =>
    ∃ (y0 : Int), args0 = [.int .i64 y0] ∧
    h_1[l_0]? = some (rec_0 .ready none) ∧
    Ld (h_1.setIfInBounds l_0 (rec_0 .busy none)) (Addr.mk b0 0 none) fun v0 => DSl v0 fun x0a x0l x0c =>
    Al (h_1.setIfInBounds l_0 (rec_0 .busy none)) (.cells #[.int .i64 y0] 2) fun b1 h_2 =>
    RunH Tryz.prog (Builtin.append_ #[76, 76] 76 #[.slice x0a x0l x0c, .slice (some (Addr.mk b1 0 none)) 1 1]) h_2 fun r2 h_3 =>
    DSl r2 fun x1a x1l x1c =>
    StC h_3 ((Addr.mk b0 0 none).add 0) (.slice x1a x1l x1c) fun h_5 =>
    h_5[l_0]? = some (rec_0 .busy none) ∧ Q_0 (.bool true) (h_5.setIfInBounds l_0 (rec_0 .ready none))) (fun pend0 h_6 =>
    pend0 = none ∧
    Ld h_6 (Addr.mk b0 0 none) fun v1 => DSl v1 fun x2a x2l x2c =>
    h_6[h_0.size]? = some (.deferred (some [])) ∧
    Q (.slice x2a x2l x2c) (h_6.setIfInBounds h_0.size (.deferred none)))
theorem F170_eq : (fun (s0a : Option Addr) (s0l : Nat) (s0c : Nat) (seq0 : Value) (h : Heap) (Q : Value → Heap → Prop) => fnPT Tryz.prog Tryz.f170 (fun _ => annNil) (fun i => bif Nat.beq i 0 then [2] else []) (fun _ => none) [.slice s0a s0l s0c, seq0] h Q) = F170 := by kernel_rfl
theorem F170_ok {s0a : Option Addr} {s0l : Nat} {s0c : Nat} {seq0 : Value} {h : Heap} {Q : Value → Heap → Prop} (H : F170 s0a s0l s0c seq0 h Q) : CallsH Tryz.prog 170 [.slice s0a s0l s0c, seq0] h Q :=
  callsH_of (ann := fun _ => annNil) (tys := fun i => bif Nat.beq i 0 then [2] else []) (pl := fun _ => none) Tryz.func170 (by kernel_rfl) (by have e := F170_eq; exact (congrFun (congrFun (congrFun (congrFun (congrFun (congrFun (e) s0a) s0l) s0c) seq0) h) Q).symm ▸ H)

/-- (*headgate/code.reader).num -/
def F198 (r0 : Option Addr) (h : Heap) (Q : Value → Heap → Prop) : Prop :=
  NN' r0 fun a0 =>
  Ld h (a0.add 0) fun v0 => DSl v0 fun x0a x0l x0c =>
  CallsH Tryz.prog 241 [.slice x0a x0l x0c] h fun r1 h_0 =>
  ∃ (x1 : Int), ∃ (x2 : Int), ∃ (x3 : Int), r1 = .tuple #[.int .u64 x1, .int .i64 x2, .int .i64 x3] ∧
  (bif (x3 : Int) != 0 then
    False
    
  else
    NN' r0 fun a1 =>
    Ld h_0 (a1.add 0) fun v1 => DSl v1 fun x4a x4l x4c =>
    SlV x4a x4c 1 x2 (x4l : Int) (x4c : Int) fun s0a s0l s0c =>
    NN' r0 fun a2 =>
    StC h_0 ((a2.add 0).add 0) (.slice s0a s0l s0c) fun h_3 =>
    Q (.int .u64 x1) h_3)
theorem F198_eq : (fun (r0 : Option Addr) (h : Heap) (Q : Value → Heap → Prop) => fnPT Tryz.prog Tryz.f198 (fun _ => annNil) (fun _ => []) (fun _ => none) [.pointer r0] h Q) = F198 := by kernel_rfl
theorem F198_ok {r0 : Option Addr} {h : Heap} {Q : Value → Heap → Prop} (H : F198 r0 h Q) : CallsH Tryz.prog 198 [.pointer r0] h Q :=
  callsH_of (ann := fun _ => annNil) (tys := fun _ => []) (pl := fun _ => none) Tryz.func198 (by kernel_rfl) (by have e := F198_eq; exact (congrFun (congrFun (congrFun (e) r0) h) Q).symm ▸ H)

/-- (*headgate/code.reader).some -/
def F199 (r0 : Option Addr) (n0 : Int) (h : Heap) (Q : Value → Heap → Prop) : Prop :=
  NN' r0 fun a0 =>
  Ld h (a0.add 0) fun v0 => DSl v0 fun x0a x0l x0c =>
  (bif decide ((n0 : Int) > (IntKind.wrap .u64 (x0l : Int))) then
    False
    
  else
    NN' r0 fun a1 =>
    Ld h (a1.add 0) fun v1 => DSl v1 fun x1a x1l x1c =>
    SlV x1a x1c 1 0 n0 (x1c : Int) fun s0a s0l s0c =>
    NN' r0 fun a2 =>
    Ld h (a2.add 0) fun v2 => DSl v2 fun x2a x2l x2c =>
    SlV x2a x2c 1 n0 (x2l : Int) (x2c : Int) fun s1a s1l s1c =>
    NN' r0 fun a3 =>
    StC h ((a3.add 0).add 0) (.slice s1a s1l s1c) fun h_2 =>
    Q (.slice s0a s0l s0c) h_2)
theorem F199_eq : (fun (r0 : Option Addr) (n0 : Int) (h : Heap) (Q : Value → Heap → Prop) => fnPT Tryz.prog Tryz.f199 (fun _ => annNil) (fun _ => []) (fun _ => none) [.pointer r0, .int .u64 n0] h Q) = F199 := by kernel_rfl
theorem F199_ok {r0 : Option Addr} {n0 : Int} {h : Heap} {Q : Value → Heap → Prop} (H : F199 r0 n0 h Q) : CallsH Tryz.prog 199 [.pointer r0, .int .u64 n0] h Q :=
  callsH_of (ann := fun _ => annNil) (tys := fun _ => []) (pl := fun _ => none) Tryz.func199 (by kernel_rfl) (by have e := F199_eq; exact (congrFun (congrFun (congrFun (congrFun (e) r0) n0) h) Q).symm ▸ H)

/-- headgate/code.Num -/
def F203 (n0 : Int) (h : Heap) (Q : Value → Heap → Prop) : Prop :=
  LoopH (fun again0 (s0 : Int × Sl) h_0 =>
    (bif decide ((s0.1 : Int) ≥ 128) then
      Al h_0 (.cells #[.int .u8 (bitsI .or .u8 (IntKind.wrap .u8 s0.1) 128)] 5) fun b0 h_1 =>
      RunH Tryz.prog (Builtin.append_ #[35, 35] 35 #[.slice s0.2.a s0.2.l s0.2.c, .slice (some (Addr.mk b0 0 none)) 1 1]) h_1 fun r1 h_2 =>
      DSl r1 fun b1a b1l b1c =>
      0 ≤ (7 : Int) ∧
      again0 (shrI .u64 s0.1 7, ⟨b1a, b1l, b1c⟩) h_2
    else
      Al h_0 (.cells #[.int .u8 (IntKind.wrap .u8 s0.1)] 5) fun b2 h_3 =>
      RunH Tryz.prog (Builtin.append_ #[35, 35] 35 #[.slice s0.2.a s0.2.l s0.2.c, .slice (some (Addr.mk b2 0 none)) 1 1]) h_3 fun r3 h_4 =>
      DSl r3 fun x0a x0l x0c =>
      Q (.slice x0a x0l x0c) h_4)) (n0, ⟨none, 0, 0⟩) h
theorem F203_eq : (fun (n0 : Int) (h : Heap) (Q : Value → Heap → Prop) => fnPT Tryz.prog Tryz.f203 (fun i => bif Nat.beq i 0 then annCons 0 (codI .u64) (annOne 3 (codSl)) else annNil) (fun _ => []) (fun _ => none) [.int .u64 n0] h Q) = F203 := by kernel_rfl
theorem F203_ok {n0 : Int} {h : Heap} {Q : Value → Heap → Prop} (H : F203 n0 h Q) : CallsH Tryz.prog 203 [.int .u64 n0] h Q :=
  callsH_of (ann := fun i => bif Nat.beq i 0 then annCons 0 (codI .u64) (annOne 3 (codSl)) else annNil) (tys := fun _ => []) (pl := fun _ => none) Tryz.func203 (by kernel_rfl) (by have e := F203_eq; exact (congrFun (congrFun (congrFun (e) n0) h) Q).symm ▸ H)

/-- maps.Keys[map[string]string,string,string] -/
def F214 (m0 : Option Nat) (h : Heap) (Q : Value → Heap → Prop) : Prop :=
  Al h (.cells #[.map m0] 175) fun b0 h_0 =>
  Q (.func (.func 244) #[] #[.pointer (some (Addr.mk b0 0 none))]) h_0
theorem F214_eq : (fun (m0 : Option Nat) (h : Heap) (Q : Value → Heap → Prop) => fnPT Tryz.prog Tryz.f214 (fun _ => annNil) (fun _ => []) (fun _ => none) [.map m0] h Q) = F214 := by kernel_rfl
theorem F214_ok {m0 : Option Nat} {h : Heap} {Q : Value → Heap → Prop} (H : F214 m0 h Q) : CallsH Tryz.prog 214 [.map m0] h Q :=
  callsH_of (ann := fun _ => annNil) (tys := fun _ => []) (pl := fun _ => none) Tryz.func214 (by kernel_rfl) (by have e := F214_eq; exact (congrFun (congrFun (congrFun (e) m0) h) Q).symm ▸ H)

/-- slices.isNaN[string] -/
def F216 (x0 : ByteArray) (h : Heap) (Q : Value → Heap → Prop) : Prop :=
  Q (.bool (!strEq x0 x0)) h
theorem F216_eq : (fun (x0 : ByteArray) (h : Heap) (Q : Value → Heap → Prop) => fnPT Tryz.prog Tryz.f216 (fun _ => annNil) (fun _ => []) (fun _ => none) [.string x0] h Q) = F216 := by kernel_rfl
theorem F216_ok {x0 : ByteArray} {h : Heap} {Q : Value → Heap → Prop} (H : F216 x0 h Q) : CallsH Tryz.prog 216 [.string x0] h Q :=
  callsH_of (ann := fun _ => annNil) (tys := fun _ => []) (pl := fun _ => none) Tryz.func216 (by kernel_rfl) (by have e := F216_eq; exact (congrFun (congrFun (congrFun (e) x0) h) Q).symm ▸ H)

/-- headgate/table.over[string]$1 -/
def F217 (yield0 : Value) (c0 : Addr) (c1 : Addr) (h : Heap) (Q : Value → Heap → Prop) : Prop :=
  Ld h c0 fun v0 => DSl v0 fun x0a x0l x0c =>
  LoopH (fun again0 (s0 : Int) h_0 =>
    (bif decide ((s0 : Int) < (x0l : Int)) then
      IdxA x0a x0l s0 1 fun a0 =>
      Ld h_0 a0 fun v1 => DS v1 fun k0 =>
      Ld h_0 c1 fun v2 => DM v2 fun x1 =>
      ∃ es0, mapEs h_0 x1 es0 ∧ ∃ f0, Instr.findNow .string (.string k0) (es0 : Array MapEntry).toList 0 = some f0 ∧
      DS ((Option.map (fun x => x.2) f0).getD (.string .empty)) fun x2 =>
      CallV Tryz.prog yield0 [.string k0, .string x2] h_0 fun r0 h_1 =>
      DB r0 fun x3 =>
      (bif !x3 then
        Q (.tuple #[]) h_1
      else
        again0 (IntKind.wrap .i64 (s0 + 1)) h_1)
    else
      Q (.tuple #[]) h_0)) 0 h
theorem F217_eq : (fun (yield0 : Value) (c0 : Addr) (c1 : Addr) (h : Heap) (Q : Value → Heap → Prop) => fnPT Tryz.prog Tryz.f217 (fun i => bif Nat.beq i 0 then annOne 8 (codI .i64) else annNil) (fun _ => []) (fun _ => none) [yield0, .pointer (some c0), .pointer (some c1)] h Q) = F217 := by kernel_rfl
theorem F217_ok {yield0 : Value} {c0 : Addr} {c1 : Addr} {h : Heap} {Q : Value → Heap → Prop} (H : F217 yield0 c0 c1 h Q) : CallsH Tryz.prog 217 [yield0, .pointer (some c0), .pointer (some c1)] h Q :=
  callsH_of (ann := fun i => bif Nat.beq i 0 then annOne 8 (codI .i64) else annNil) (tys := fun _ => []) (pl := fun _ => none) Tryz.func217 (by kernel_rfl) (by have e := F217_eq; exact (congrFun (congrFun (congrFun (congrFun (congrFun (e) yield0) c0) c1) h) Q).symm ▸ H)

/-- headgate/code.Unnum -/
def F241 (b0a : Option Addr) (b0l : Nat) (b0c : Nat) (h : Heap) (Q : Value → Heap → Prop) : Prop :=
  LoopH (fun again0 (s0 : Int × Int) h_0 =>
    (bif decide ((s0.2 : Int) < (b0l : Int)) then
      IdxA b0a b0l s0.2 1 fun a0 =>
      Ld h_0 a0 fun v0 => DI .u8 v0 fun c0 =>
      (bif (s0.2 : Int) == 9 then
        (bif decide ((c0 : Int) > 1) then
          (bif decide ((c0 : Int) > 1) then
            Q (.tuple #[.int .u64 0, .int .i64 0, .int .i64 41]) h_0
          else
            0 ≤ ((IntKind.wrap .i64 (7 * s0.2)) : Int) ∧
            (bif decide ((c0 : Int) < 128) then
              Q (.tuple #[.int .u64 (bitsI .or .u64 s0.1 (shlI .u64 (IntKind.wrap .u64 (bitsI .and .u8 c0 127)) (IntKind.wrap .i64 (7 * s0.2)))), .int .i64 (IntKind.wrap .i64 (s0.2 + 1)), .int .i64 0]) h_0
            else
              again0 (bitsI .or .u64 s0.1 (shlI .u64 (IntKind.wrap .u64 (bitsI .and .u8 c0 127)) (IntKind.wrap .i64 (7 * s0.2))), IntKind.wrap .i64 (s0.2 + 1)) h_0))
        else
          (bif decide ((s0.2 : Int) > 0) then
            (bif (c0 : Int) == 0 then
              Q (.tuple #[.int .u64 0, .int .i64 0, .int .i64 41]) h_0
            else
              0 ≤ ((IntKind.wrap .i64 (7 * s0.2)) : Int) ∧
              (bif decide ((c0 : Int) < 128) then
                Q (.tuple #[.int .u64 (bitsI .or .u64 s0.1 (shlI .u64 (IntKind.wrap .u64 (bitsI .and .u8 c0 127)) (IntKind.wrap .i64 (7 * s0.2)))), .int .i64 (IntKind.wrap .i64 (s0.2 + 1)), .int .i64 0]) h_0
              else
                again0 (bitsI .or .u64 s0.1 (shlI .u64 (IntKind.wrap .u64 (bitsI .and .u8 c0 127)) (IntKind.wrap .i64 (7 * s0.2))), IntKind.wrap .i64 (s0.2 + 1)) h_0))
          else
            0 ≤ ((IntKind.wrap .i64 (7 * s0.2)) : Int) ∧
            (bif decide ((c0 : Int) < 128) then
              Q (.tuple #[.int .u64 (bitsI .or .u64 s0.1 (shlI .u64 (IntKind.wrap .u64 (bitsI .and .u8 c0 127)) (IntKind.wrap .i64 (7 * s0.2)))), .int .i64 (IntKind.wrap .i64 (s0.2 + 1)), .int .i64 0]) h_0
            else
              again0 (bitsI .or .u64 s0.1 (shlI .u64 (IntKind.wrap .u64 (bitsI .and .u8 c0 127)) (IntKind.wrap .i64 (7 * s0.2))), IntKind.wrap .i64 (s0.2 + 1)) h_0)))
      else
        (bif decide ((s0.2 : Int) > 0) then
          (bif (c0 : Int) == 0 then
            Q (.tuple #[.int .u64 0, .int .i64 0, .int .i64 41]) h_0
          else
            0 ≤ ((IntKind.wrap .i64 (7 * s0.2)) : Int) ∧
            (bif decide ((c0 : Int) < 128) then
              Q (.tuple #[.int .u64 (bitsI .or .u64 s0.1 (shlI .u64 (IntKind.wrap .u64 (bitsI .and .u8 c0 127)) (IntKind.wrap .i64 (7 * s0.2)))), .int .i64 (IntKind.wrap .i64 (s0.2 + 1)), .int .i64 0]) h_0
            else
              again0 (bitsI .or .u64 s0.1 (shlI .u64 (IntKind.wrap .u64 (bitsI .and .u8 c0 127)) (IntKind.wrap .i64 (7 * s0.2))), IntKind.wrap .i64 (s0.2 + 1)) h_0))
        else
          0 ≤ ((IntKind.wrap .i64 (7 * s0.2)) : Int) ∧
          (bif decide ((c0 : Int) < 128) then
            Q (.tuple #[.int .u64 (bitsI .or .u64 s0.1 (shlI .u64 (IntKind.wrap .u64 (bitsI .and .u8 c0 127)) (IntKind.wrap .i64 (7 * s0.2)))), .int .i64 (IntKind.wrap .i64 (s0.2 + 1)), .int .i64 0]) h_0
          else
            again0 (bitsI .or .u64 s0.1 (shlI .u64 (IntKind.wrap .u64 (bitsI .and .u8 c0 127)) (IntKind.wrap .i64 (7 * s0.2))), IntKind.wrap .i64 (s0.2 + 1)) h_0)))
    else
      Q (.tuple #[.int .u64 0, .int .i64 0, .int .i64 41]) h_0)) (0, 0) h
theorem F241_eq : (fun (b0a : Option Addr) (b0l : Nat) (b0c : Nat) (h : Heap) (Q : Value → Heap → Prop) => fnPT Tryz.prog Tryz.f241 (fun i => bif Nat.beq i 0 then annCons 5 (codI .u64) (annOne 10 (codI .i64)) else annNil) (fun _ => []) (fun _ => none) [.slice b0a b0l b0c] h Q) = F241 := by kernel_rfl
theorem F241_ok {b0a : Option Addr} {b0l : Nat} {b0c : Nat} {h : Heap} {Q : Value → Heap → Prop} (H : F241 b0a b0l b0c h Q) : CallsH Tryz.prog 241 [.slice b0a b0l b0c] h Q :=
  callsH_of (ann := fun i => bif Nat.beq i 0 then annCons 5 (codI .u64) (annOne 10 (codI .i64)) else annNil) (tys := fun _ => []) (pl := fun _ => none) Tryz.func241 (by kernel_rfl) (by have e := F241_eq; exact (congrFun (congrFun (congrFun (congrFun (congrFun (e) b0a) b0l) b0c) h) Q).symm ▸ H)

/-- maps.Keys[map[string]string,string,string]$1 -/
def F244 (yield0 : Value) (c0 : Addr) (h : Heap) (Q : Value → Heap → Prop) : Prop :=
  Ld h c0 fun v0 => DM v0 fun x0 =>
  RunH Tryz.prog (Instr.range 175 (.map x0)) h fun r0 h_0 =>
  DP r0 fun p0 =>
  LoopH (fun again0 (s0 : Unit) h_1 =>
    RunH Tryz.prog (Instr.next (.pointer p0) false 0) h_1 fun r1 h_2 =>
    (
      r1 = .tuple #[.bool false] ∧
      Q (.tuple #[]) h_2) ∨ (
      ∃ (k0 x1 : Value), r1 = .tuple #[.bool true, k0, x1] ∧
      RunH Tryz.prog (Instr.entry (.pointer p0)) h_2 fun r2 h_3 =>
      ∃ (x2 : ByteArray), ∃ (x3 : Value), r2 = .tuple #[.string x2, x3] ∧
      CallV Tryz.prog yield0 [.string x2] h_3 fun r3 h_4 =>
      DB r3 fun x4 =>
      (bif !x4 then
        Q (.tuple #[]) h_4
      else
        again0 () h_4))) () h_0
theorem F244_eq : (fun (yield0 : Value) (c0 : Addr) (h : Heap) (Q : Value → Heap → Prop) => fnPT Tryz.prog Tryz.f244 (fun i => bif Nat.beq i 0 then annNil else annNil) (fun i => bif Nat.beq i 1002 then [9, 0] else []) (fun _ => none) [yield0, .pointer (some c0)] h Q) = F244 := by kernel_rfl
theorem F244_ok {yield0 : Value} {c0 : Addr} {h : Heap} {Q : Value → Heap → Prop} (H : F244 yield0 c0 h Q) : CallsH Tryz.prog 244 [yield0, .pointer (some c0)] h Q :=
  callsH_of (ann := fun i => bif Nat.beq i 0 then annNil else annNil) (tys := fun i => bif Nat.beq i 1002 then [9, 0] else []) (pl := fun _ => none) Tryz.func244 (by kernel_rfl) (by have e := F244_eq; exact (congrFun (congrFun (congrFun (congrFun (e) yield0) c0) h) Q).symm ▸ H)

end Go.Proofs.YtibdiikcigokjaaGreat
