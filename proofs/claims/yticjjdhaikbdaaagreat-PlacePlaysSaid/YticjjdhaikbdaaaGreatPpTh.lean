/- The texts over heaps of functions of the program: written by a program of this claim's writer (decomp.py); Lean checks each against the code. -/
import Derived.Test.YticjjdhaikbdaaaGreatPpFwA
import Derived.Test.YticjjdhaikbdaaaGreatProg
namespace Go.Proofs.YticjjdhaikbdaaaGreat
open Go Go.RowKit
set_option linter.unusedVariables false
set_option maxRecDepth 100000

/-- headgate/headgatelaw07.PlacePlays -/
def F3 (room0 : Int) (acts0a : Option Addr) (acts0l : Nat) (acts0c : Nat) (h : Heap) (Q : Value → Heap → Prop) : Prop :=
  CallsH Tryz.prog 9 [] h fun r0 h_0 =>
  DB r0 fun x0 =>
  (bif !x0 then
    Q (.bool false) h_0
  else
    CallsH Tryz.prog 10 [.int .i64 (IntKind.wrap .i64 room0)] h_0 fun r1 h_1 =>
    ∃ (x1 : Option Addr), ∃ (x2 : Int), r1 = .tuple #[.pointer x1, .int .i64 x2] ∧
    CallsH Tryz.prog 11 [.int .i64 (IntKind.wrap .i64 room0)] h_1 fun r2 h_2 =>
    ∃ (x3 : Option Addr), ∃ (x4 : Int), r2 = .tuple #[.pointer x3, .int .i64 x4] ∧
    (bif (x2 : Int) != 0 then
      Q (.bool false) h_2
    else
      (bif (x4 : Int) != 0 then
        Q (.bool false) h_2
      else
        LoopH (fun again0 (s0 : Int) h_3 =>
          (bif decide ((s0 : Int) < (acts0l : Int)) then
            (bif decide ((s0 : Int) < 100) then
              IdxA acts0a acts0l s0 8 fun a0 =>
              Ld h_3 ((a0.add 1).add 0) fun c0 =>
              Ld h_3 ((a0.add 1).add 1) fun c1 =>
              Ld h_3 ((a0.add 1).add 2) fun c2 =>
              Ld h_3 ((a0.add 1).add 3) fun c3 =>
              Ld h_3 ((a0.add 1).add 4) fun c4 =>
              Ld h_3 ((a0.add 1).add 5) fun c5 =>
              Ld h_3 ((a0.add 1).add 6) fun c6 =>
              ∃ (x5 : Int), ∃ (x6 : ByteArray), ∃ (x7 : ByteArray), ∃ (x8 : ByteArray), ∃ (x9 : Int), ∃ (x10 : Int), ∃ (x11a : Option Addr), ∃ (x11l : Nat), ∃ (x11c : Nat), (Value.agg #[c0, c1, c2, c3, c4, c5, c6]) = .agg #[.int .i64 x5, .string x6, .string x7, .string x8, .int .i64 x9, .int .u8 x10, .slice x11a x11l x11c] ∧
              Al h_3 (.cells #[.int .i64 0, .string .empty, .string .empty, .string .empty, .int .i64 0, .int .u8 0, .slice none 0 0] 34) fun b0 h_4 =>
              StC h_4 ((Addr.mk b0 0 none).add 0) (.int .i64 x5) fun h_6 =>
              StC h_6 ((Addr.mk b0 0 none).add 1) (.string x6) fun h_7 =>
              StC h_7 ((Addr.mk b0 0 none).add 2) (.string x7) fun h_8 =>
              StC h_8 ((Addr.mk b0 0 none).add 3) (.string x8) fun h_9 =>
              StC h_9 ((Addr.mk b0 0 none).add 4) (.int .i64 x9) fun h_10 =>
              StC h_10 ((Addr.mk b0 0 none).add 5) (.int .u8 x10) fun h_11 =>
              StC h_11 ((Addr.mk b0 0 none).add 6) (.slice x11a x11l x11c) fun h_12 =>
              Ld h_12 ((Addr.mk b0 0 none).add 0) fun c7 =>
              Ld h_12 ((Addr.mk b0 0 none).add 1) fun c8 =>
              Ld h_12 ((Addr.mk b0 0 none).add 2) fun c9 =>
              Ld h_12 ((Addr.mk b0 0 none).add 3) fun c10 =>
              Ld h_12 ((Addr.mk b0 0 none).add 4) fun c11 =>
              Ld h_12 ((Addr.mk b0 0 none).add 5) fun c12 =>
              Ld h_12 ((Addr.mk b0 0 none).add 6) fun c13 =>
              ∃ (x12 : Int), ∃ (x13 : ByteArray), ∃ (x14 : ByteArray), ∃ (x15 : ByteArray), ∃ (x16 : Int), ∃ (x17 : Int), ∃ (x18a : Option Addr), ∃ (x18l : Nat), ∃ (x18c : Nat), (Value.agg #[c7, c8, c9, c10, c11, c12, c13]) = .agg #[.int .i64 x12, .string x13, .string x14, .string x15, .int .i64 x16, .int .u8 x17, .slice x18a x18l x18c] ∧
              Al h_12 (.cells #[.int .i64 x12, .string x13, .string x14, .string x15, .int .i64 x16, .int .u8 x17, .slice x18a x18l x18c] 34) fun b1 h_13 =>
              CallsH Tryz.prog 12 [.slice (some (Addr.mk b1 0 none)) 1 1] h_13 fun r6 h_14 =>
              DB r6 fun x19 =>
              (bif x19 then
                Q (.bool true) h_14
              else
                IdxA acts0a acts0l s0 8 fun a1 =>
                Ld h_14 (a1.add 0) fun v0 => DI .i64 v0 fun x20 =>
                (bif (x20 : Int) == 0 then
                  Ld h_14 ((Addr.mk b0 0 none).add 1) fun v1 => DS v1 fun x21 =>
                  Ld h_14 ((Addr.mk b0 0 none).add 2) fun v2 => DS v2 fun x22 =>
                  Ld h_14 ((Addr.mk b0 0 none).add 3) fun v3 => DS v3 fun x23 =>
                  Ld h_14 ((Addr.mk b0 0 none).add 1) fun v4 => DS v4 fun x24 =>
                  Ld h_14 ((Addr.mk b0 0 none).add 2) fun v5 => DS v5 fun x25 =>
                  Ld h_14 ((Addr.mk b0 0 none).add 3) fun v6 => DS v6 fun x26 =>
                  RunH Tryz.prog (Go.convert 9 40 (.string x23)) h_14 fun r7 h_15 =>
                  DSl r7 fun x27a x27l x27c =>
                  (SameV (some (.pointer x1)) (.pointer x1)) ∧
                  (SameV (some (.pointer (some ((Addr.mk b0 0 none).add 1)))) (.pointer (some ((Addr.mk b0 0 none).add 1)))) ∧
                  (Ld h_15 ((Addr.mk b0 0 none).add 1) fun v7 => DS v7 fun x28 =>
                  SameV (some (.string x21)) (.string x28)) ∧
                  (SameV (some (.pointer (some ((Addr.mk b0 0 none).add 2)))) (.pointer (some ((Addr.mk b0 0 none).add 2)))) ∧
                  (Ld h_15 ((Addr.mk b0 0 none).add 2) fun v8 => DS v8 fun x29 =>
                  SameV (some (.string x22)) (.string x29)) ∧
                  (SameV (some (.pointer x3)) (.pointer x3)) ∧
                  (SameV (some (.pointer (some ((Addr.mk b0 0 none).add 1)))) (.pointer (some ((Addr.mk b0 0 none).add 1)))) ∧
                  (Ld h_15 ((Addr.mk b0 0 none).add 1) fun v9 => DS v9 fun x30 =>
                  SameV (some (.string x24)) (.string x30)) ∧
                  (SameV (some (.pointer (some ((Addr.mk b0 0 none).add 2)))) (.pointer (some ((Addr.mk b0 0 none).add 2)))) ∧
                  (Ld h_15 ((Addr.mk b0 0 none).add 2) fun v10 => DS v10 fun x31 =>
                  SameV (some (.string x25)) (.string x31)) ∧
                  (SameV (some (.pointer (some ((Addr.mk b0 0 none).add 3)))) (.pointer (some ((Addr.mk b0 0 none).add 3)))) ∧
                  (Ld h_15 ((Addr.mk b0 0 none).add 3) fun v11 => DS v11 fun x32 =>
                  SameV (some (.string x26)) (.string x32)) ∧
                  CallsH Tryz.prog 13 [.pointer x1, .string x21, .string x22, .slice x27a x27l x27c] h_15 fun r8 h_16 =>
                  DI .i64 r8 fun x33 =>
                  (SameV (some (.pointer x3)) (.pointer x3)) ∧
                  (SameV (some (.pointer (some ((Addr.mk b0 0 none).add 1)))) (.pointer (some ((Addr.mk b0 0 none).add 1)))) ∧
                  (Ld h_16 ((Addr.mk b0 0 none).add 1) fun v12 => DS v12 fun x34 =>
                  SameV (some (.string x24)) (.string x34)) ∧
                  (SameV (some (.pointer (some ((Addr.mk b0 0 none).add 2)))) (.pointer (some ((Addr.mk b0 0 none).add 2)))) ∧
                  (Ld h_16 ((Addr.mk b0 0 none).add 2) fun v13 => DS v13 fun x35 =>
                  SameV (some (.string x25)) (.string x35)) ∧
                  (SameV (some (.pointer (some ((Addr.mk b0 0 none).add 3)))) (.pointer (some ((Addr.mk b0 0 none).add 3)))) ∧
                  (Ld h_16 ((Addr.mk b0 0 none).add 3) fun v14 => DS v14 fun x36 =>
                  SameV (some (.string x26)) (.string x36)) ∧
                  CallsH Tryz.prog 14 [.pointer x3, .string x24, .string x25, .string x26] h_16 fun r9 h_17 =>
                  DI .i64 r9 fun x37 =>
                  (bif (x33 : Int) != x37 then
                    Q (.bool false) h_17
                  else
                    CallsH Tryz.prog 26 [.pointer x1, .pointer x3] h_17 fun r10 h_18 =>
                    DB r10 fun x38 =>
                    (bif !x38 then
                      Q (.bool false) h_18
                    else
                      again0 (IntKind.wrap .i64 (s0 + 1)) h_18))
                else
                  (bif (x20 : Int) == 1 then
                    Ld h_14 ((Addr.mk b0 0 none).add 1) fun v15 => DS v15 fun x39 =>
                    Ld h_14 ((Addr.mk b0 0 none).add 2) fun v16 => DS v16 fun x40 =>
                    Ld h_14 ((Addr.mk b0 0 none).add 3) fun v17 => DS v17 fun x41 =>
                    Ld h_14 ((Addr.mk b0 0 none).add 1) fun v18 => DS v18 fun x42 =>
                    Ld h_14 ((Addr.mk b0 0 none).add 2) fun v19 => DS v19 fun x43 =>
                    Ld h_14 ((Addr.mk b0 0 none).add 3) fun v20 => DS v20 fun x44 =>
                    RunH Tryz.prog (Go.convert 9 40 (.string x41)) h_14 fun r11 h_19 =>
                    DSl r11 fun x45a x45l x45c =>
                    (SameV (some (.pointer x1)) (.pointer x1)) ∧
                    (SameV (some (.pointer (some ((Addr.mk b0 0 none).add 1)))) (.pointer (some ((Addr.mk b0 0 none).add 1)))) ∧
                    (Ld h_19 ((Addr.mk b0 0 none).add 1) fun v21 => DS v21 fun x46 =>
                    SameV (some (.string x39)) (.string x46)) ∧
                    (SameV (some (.pointer (some ((Addr.mk b0 0 none).add 2)))) (.pointer (some ((Addr.mk b0 0 none).add 2)))) ∧
                    (Ld h_19 ((Addr.mk b0 0 none).add 2) fun v22 => DS v22 fun x47 =>
                    SameV (some (.string x40)) (.string x47)) ∧
                    (SameV (some (.pointer x3)) (.pointer x3)) ∧
                    (SameV (some (.pointer (some ((Addr.mk b0 0 none).add 1)))) (.pointer (some ((Addr.mk b0 0 none).add 1)))) ∧
                    (Ld h_19 ((Addr.mk b0 0 none).add 1) fun v23 => DS v23 fun x48 =>
                    SameV (some (.string x42)) (.string x48)) ∧
                    (SameV (some (.pointer (some ((Addr.mk b0 0 none).add 2)))) (.pointer (some ((Addr.mk b0 0 none).add 2)))) ∧
                    (Ld h_19 ((Addr.mk b0 0 none).add 2) fun v24 => DS v24 fun x49 =>
                    SameV (some (.string x43)) (.string x49)) ∧
                    (SameV (some (.pointer (some ((Addr.mk b0 0 none).add 3)))) (.pointer (some ((Addr.mk b0 0 none).add 3)))) ∧
                    (Ld h_19 ((Addr.mk b0 0 none).add 3) fun v25 => DS v25 fun x50 =>
                    SameV (some (.string x44)) (.string x50)) ∧
                    CallsH Tryz.prog 15 [.pointer x1, .string x39, .string x40, .slice x45a x45l x45c] h_19 fun r12 h_20 =>
                    DI .i64 r12 fun x51 =>
                    (SameV (some (.pointer x3)) (.pointer x3)) ∧
                    (SameV (some (.pointer (some ((Addr.mk b0 0 none).add 1)))) (.pointer (some ((Addr.mk b0 0 none).add 1)))) ∧
                    (Ld h_20 ((Addr.mk b0 0 none).add 1) fun v26 => DS v26 fun x52 =>
                    SameV (some (.string x42)) (.string x52)) ∧
                    (SameV (some (.pointer (some ((Addr.mk b0 0 none).add 2)))) (.pointer (some ((Addr.mk b0 0 none).add 2)))) ∧
                    (Ld h_20 ((Addr.mk b0 0 none).add 2) fun v27 => DS v27 fun x53 =>
                    SameV (some (.string x43)) (.string x53)) ∧
                    (SameV (some (.pointer (some ((Addr.mk b0 0 none).add 3)))) (.pointer (some ((Addr.mk b0 0 none).add 3)))) ∧
                    (Ld h_20 ((Addr.mk b0 0 none).add 3) fun v28 => DS v28 fun x54 =>
                    SameV (some (.string x44)) (.string x54)) ∧
                    CallsH Tryz.prog 16 [.pointer x3, .string x42, .string x43, .string x44] h_20 fun r13 h_21 =>
                    DI .i64 r13 fun x55 =>
                    (bif (x51 : Int) != x55 then
                      Q (.bool false) h_21
                    else
                      CallsH Tryz.prog 26 [.pointer x1, .pointer x3] h_21 fun r14 h_22 =>
                      DB r14 fun x56 =>
                      (bif !x56 then
                        Q (.bool false) h_22
                      else
                        again0 (IntKind.wrap .i64 (s0 + 1)) h_22))
                  else
                    (bif (x20 : Int) == 2 then
                      Ld h_14 ((Addr.mk b0 0 none).add 1) fun v29 => DS v29 fun x57 =>
                      Ld h_14 ((Addr.mk b0 0 none).add 2) fun v30 => DS v30 fun x58 =>
                      CallsH Tryz.prog 17 [.pointer x1, .string x57, .string x58] h_14 fun r15 h_23 =>
                      ∃ (x59a : Option Addr), ∃ (x59l : Nat), ∃ (x59c : Nat), ∃ (x60 : Int), r15 = .tuple #[.slice x59a x59l x59c, .int .i64 x60] ∧
                      Ld h_23 ((Addr.mk b0 0 none).add 1) fun v31 => DS v31 fun x61 =>
                      Ld h_23 ((Addr.mk b0 0 none).add 2) fun v32 => DS v32 fun x62 =>
                      CallsH Tryz.prog 18 [.pointer x3, .string x61, .string x62] h_23 fun r16 h_24 =>
                      ∃ (x63 : ByteArray), ∃ (x64 : Int), r16 = .tuple #[.string x63, .int .i64 x64] ∧
                      (bif (x60 : Int) != x64 then
                        Q (.bool false) h_24
                      else
                        ∃ bs0 : ByteArray, BytesIn h_24 x59a x59l bs0 ∧
                        (bif !strEq bs0 x63 then
                          Q (.bool false) h_24
                        else
                          CallsH Tryz.prog 26 [.pointer x1, .pointer x3] h_24 fun r17 h_25 =>
                          DB r17 fun x65 =>
                          (bif !x65 then
                            Q (.bool false) h_25
                          else
                            again0 (IntKind.wrap .i64 (s0 + 1)) h_25)))
                    else
                      (bif (x20 : Int) == 3 then
                        Ld h_14 ((Addr.mk b0 0 none).add 1) fun v33 => DS v33 fun x66 =>
                        CallsH Tryz.prog 19 [.pointer x1, .string x66] h_14 fun r18 h_26 =>
                        ∃ (x67 : Int), ∃ (x68 : Int), r18 = .tuple #[.int .i64 x67, .int .i64 x68] ∧
                        Ld h_26 ((Addr.mk b0 0 none).add 1) fun v34 => DS v34 fun x69 =>
                        CallsH Tryz.prog 20 [.pointer x3, .string x69] h_26 fun r19 h_27 =>
                        ∃ (x70 : Int), ∃ (x71 : Int), r19 = .tuple #[.int .i64 x70, .int .i64 x71] ∧
                        (bif (x68 : Int) != x71 then
                          Q (.bool false) h_27
                        else
                          (bif (x67 : Int) != x70 then
                            Q (.bool false) h_27
                          else
                            CallsH Tryz.prog 26 [.pointer x1, .pointer x3] h_27 fun r20 h_28 =>
                            DB r20 fun x72 =>
                            (bif !x72 then
                              Q (.bool false) h_28
                            else
                              again0 (IntKind.wrap .i64 (s0 + 1)) h_28)))
                      else
                        (bif (x20 : Int) == 4 then
                          Ld h_14 ((Addr.mk b0 0 none).add 1) fun v35 => DS v35 fun x73 =>
                          CallsH Tryz.prog 21 [.pointer x1, .string x73] h_14 fun r21 h_29 =>
                          ∃ (x74a : Option Addr), ∃ (x74l : Nat), ∃ (x74c : Nat), ∃ (x75 : Int), r21 = .tuple #[.slice x74a x74l x74c, .int .i64 x75] ∧
                          Ld h_29 ((Addr.mk b0 0 none).add 1) fun v36 => DS v36 fun x76 =>
                          CallsH Tryz.prog 22 [.pointer x3, .string x76] h_29 fun r22 h_30 =>
                          ∃ (x77a : Option Addr), ∃ (x77l : Nat), ∃ (x77c : Nat), ∃ (x78 : Int), r22 = .tuple #[.slice x77a x77l x77c, .int .i64 x78] ∧
                          (bif (x75 : Int) != x78 then
                            Q (.bool false) h_30
                          else
                            CallsH Tryz.prog 23 [.slice x74a x74l x74c, .slice x77a x77l x77c] h_30 fun r23 h_31 =>
                            DB r23 fun x79 =>
                            (bif !x79 then
                              Q (.bool false) h_31
                            else
                              CallsH Tryz.prog 26 [.pointer x1, .pointer x3] h_31 fun r24 h_32 =>
                              DB r24 fun x80 =>
                              (bif !x80 then
                                Q (.bool false) h_32
                              else
                                again0 (IntKind.wrap .i64 (s0 + 1)) h_32)))
                        else
                          Ld h_14 ((Addr.mk b0 0 none).add 0) fun c14 =>
                          Ld h_14 ((Addr.mk b0 0 none).add 1) fun c15 =>
                          Ld h_14 ((Addr.mk b0 0 none).add 2) fun c16 =>
                          Ld h_14 ((Addr.mk b0 0 none).add 3) fun c17 =>
                          Ld h_14 ((Addr.mk b0 0 none).add 4) fun c18 =>
                          Ld h_14 ((Addr.mk b0 0 none).add 5) fun c19 =>
                          Ld h_14 ((Addr.mk b0 0 none).add 6) fun c20 =>
                          ∃ (x81 : Int), ∃ (x82 : ByteArray), ∃ (x83 : ByteArray), ∃ (x84 : ByteArray), ∃ (x85 : Int), ∃ (x86 : Int), ∃ (x87a : Option Addr), ∃ (x87l : Nat), ∃ (x87c : Nat), (Value.agg #[c14, c15, c16, c17, c18, c19, c20]) = .agg #[.int .i64 x81, .string x82, .string x83, .string x84, .int .i64 x85, .int .u8 x86, .slice x87a x87l x87c] ∧
                          Ld h_14 ((Addr.mk b0 0 none).add 0) fun c21 =>
                          Ld h_14 ((Addr.mk b0 0 none).add 1) fun c22 =>
                          Ld h_14 ((Addr.mk b0 0 none).add 2) fun c23 =>
                          Ld h_14 ((Addr.mk b0 0 none).add 3) fun c24 =>
                          Ld h_14 ((Addr.mk b0 0 none).add 4) fun c25 =>
                          Ld h_14 ((Addr.mk b0 0 none).add 5) fun c26 =>
                          Ld h_14 ((Addr.mk b0 0 none).add 6) fun c27 =>
                          ∃ (x88 : Int), ∃ (x89 : ByteArray), ∃ (x90 : ByteArray), ∃ (x91 : ByteArray), ∃ (x92 : Int), ∃ (x93 : Int), ∃ (x94a : Option Addr), ∃ (x94l : Nat), ∃ (x94c : Nat), (Value.agg #[c21, c22, c23, c24, c25, c26, c27]) = .agg #[.int .i64 x88, .string x89, .string x90, .string x91, .int .i64 x92, .int .u8 x93, .slice x94a x94l x94c] ∧
                          CallsH Tryz.prog 24 [.pointer x1, .agg #[.int .i64 x81, .string x82, .string x83, .string x84, .int .i64 x85, .int .u8 x86, .slice x87a x87l x87c]] h_14 fun r25 h_33 =>
                          DI .i64 r25 fun x95 =>
                          (SameV (some (.pointer x3)) (.pointer x3)) ∧
                          (Ld h_33 ((Addr.mk b0 0 none).add 0) fun c28 =>
                          Ld h_33 ((Addr.mk b0 0 none).add 1) fun c29 =>
                          Ld h_33 ((Addr.mk b0 0 none).add 2) fun c30 =>
                          Ld h_33 ((Addr.mk b0 0 none).add 3) fun c31 =>
                          Ld h_33 ((Addr.mk b0 0 none).add 4) fun c32 =>
                          Ld h_33 ((Addr.mk b0 0 none).add 5) fun c33 =>
                          Ld h_33 ((Addr.mk b0 0 none).add 6) fun c34 =>
                          ∃ (x96 : Int), ∃ (x97 : ByteArray), ∃ (x98 : ByteArray), ∃ (x99 : ByteArray), ∃ (x100 : Int), ∃ (x101 : Int), ∃ (x102a : Option Addr), ∃ (x102l : Nat), ∃ (x102c : Nat), (Value.agg #[c28, c29, c30, c31, c32, c33, c34]) = .agg #[.int .i64 x96, .string x97, .string x98, .string x99, .int .i64 x100, .int .u8 x101, .slice x102a x102l x102c] ∧
                          SameV (some (.agg #[.int .i64 x88, .string x89, .string x90, .string x91, .int .i64 x92, .int .u8 x93, .slice x94a x94l x94c])) (.agg #[.int .i64 x96, .string x97, .string x98, .string x99, .int .i64 x100, .int .u8 x101, .slice x102a x102l x102c])) ∧
                          CallsH Tryz.prog 25 [.pointer x3, .agg #[.int .i64 x88, .string x89, .string x90, .string x91, .int .i64 x92, .int .u8 x93, .slice x94a x94l x94c]] h_33 fun r26 h_34 =>
                          DI .i64 r26 fun x103 =>
                          (bif (x95 : Int) != x103 then
                            Q (.bool false) h_34
                          else
                            CallsH Tryz.prog 26 [.pointer x1, .pointer x3] h_34 fun r27 h_35 =>
                            DB r27 fun x104 =>
                            (bif !x104 then
                              Q (.bool false) h_35
                            else
                              again0 (IntKind.wrap .i64 (s0 + 1)) h_35))))))))
            else
              Q (.bool true) h_3)
          else
            Q (.bool true) h_3)) 0 h_2)))
theorem F3_eq : (fun (room0 : Int) (acts0a : Option Addr) (acts0l : Nat) (acts0c : Nat) (h : Heap) (Q : Value → Heap → Prop) => fnPT Tryz.prog Tryz.f3 (fun i => bif Nat.beq i 0 then annOne 9 (codI .i64) else annNil) (fun _ => []) (fun i => bif Nat.beq i 17 then some ⟨[0, 0, 2, 0, 8, 0, 32, 96, 255, 0, 0, 1024, 0, 4096, 0, 16384, 65535, 131071], 65920⟩ else bif Nat.beq i 20 then some ⟨[0, 0, 2, 0, 8, 0, 32, 96, 255, 0, 0, 1024, 0, 4096, 0, 16384, 65535, 131071], 65920⟩ else bif Nat.beq i 14 then some ⟨[0, 0, 3, 0, 0, 31, 63], 36⟩ else none) [.int .u16 room0, .slice acts0a acts0l acts0c] h Q) = F3 := by kernel_rfl
theorem F3_ok {room0 : Int} {acts0a : Option Addr} {acts0l : Nat} {acts0c : Nat} {h : Heap} {Q : Value → Heap → Prop} (H : F3 room0 acts0a acts0l acts0c h Q) : CallsH Tryz.prog 3 [.int .u16 room0, .slice acts0a acts0l acts0c] h Q :=
  callsH_of (ann := fun i => bif Nat.beq i 0 then annOne 9 (codI .i64) else annNil) (tys := fun _ => []) (pl := fun i => bif Nat.beq i 17 then some ⟨[0, 0, 2, 0, 8, 0, 32, 96, 255, 0, 0, 1024, 0, 4096, 0, 16384, 65535, 131071], 65920⟩ else bif Nat.beq i 20 then some ⟨[0, 0, 2, 0, 8, 0, 32, 96, 255, 0, 0, 1024, 0, 4096, 0, 16384, 65535, 131071], 65920⟩ else bif Nat.beq i 14 then some ⟨[0, 0, 3, 0, 0, 31, 63], 36⟩ else none) Tryz.func3 (by kernel_rfl) (by have e := F3_eq; exact (congrFun (congrFun (congrFun (congrFun (congrFun (congrFun (e) room0) acts0a) acts0l) acts0c) h) Q).symm ▸ H)

/-- headgate/headgateref07.Put -/
def F14 (f0 : Option Addr) (dir0 : ByteArray) (name0 : ByteArray) (b0 : ByteArray) (h : Heap) (Q : Value → Heap → Prop) : Prop :=
  CallsH Tryz.prog 46 [.string b0] h fun r0 h_0 =>
  ∃ (x0 : ByteArray), ∃ (x1 : Int), r0 = .tuple #[.string x0, .int .i64 x1] ∧
  (bif (x1 : Int) != 0 then
    Q (.int .i64 x1) h_0
  else
    CallsH Tryz.prog 16 [.pointer f0, .string dir0, .string name0, .string x0] h_0 fun r1 h_1 =>
    DI .i64 r1 fun x2 =>
    Q (.int .i64 x2) h_1)
theorem F14_eq : (fun (f0 : Option Addr) (dir0 : ByteArray) (name0 : ByteArray) (b0 : ByteArray) (h : Heap) (Q : Value → Heap → Prop) => fnPT Tryz.prog Tryz.f14 (fun _ => annNil) (fun _ => []) (fun _ => none) [.pointer f0, .string dir0, .string name0, .string b0] h Q) = F14 := by kernel_rfl
theorem F14_ok {f0 : Option Addr} {dir0 : ByteArray} {name0 : ByteArray} {b0 : ByteArray} {h : Heap} {Q : Value → Heap → Prop} (H : F14 f0 dir0 name0 b0 h Q) : CallsH Tryz.prog 14 [.pointer f0, .string dir0, .string name0, .string b0] h Q :=
  callsH_of (ann := fun _ => annNil) (tys := fun _ => []) (pl := fun _ => none) Tryz.func14 (by kernel_rfl) (by have e := F14_eq; exact (congrFun (congrFun (congrFun (congrFun (congrFun (congrFun (e) f0) dir0) name0) b0) h) Q).symm ▸ H)

/-- headgate/headgateref07.Raw -/
def F16 (f0 : Option Addr) (dir0 : ByteArray) (name0 : ByteArray) (b0 : ByteArray) (h : Heap) (Q : Value → Heap → Prop) : Prop :=
  (bif decide ((((name0 : ByteArray).size : Int) : Int) > 28) then
    Q (.int .i64 65) h
  else
    (⟨#[116, 109, 112, 46]⟩ : ByteArray).size + (name0 : ByteArray).size ≤ 9223372036854775807 ∧
    CallsH Tryz.prog 61 [.pointer f0, .string dir0] h fun r0 h_0 =>
    ∃ (x0a : Option Addr), ∃ (x0l : Nat), ∃ (x0c : Nat), ∃ (x1 : Int), r0 = .tuple #[.slice x0a x0l x0c, .int .i64 x1] ∧
    (bif (x1 : Int) != 0 then
      Q (.int .i64 x1) h_0
    else
      CallsH Tryz.prog 62 [.slice x0a x0l x0c, .string (⟨#[116, 109, 112, 46]⟩ ++ name0)] h_0 fun r1 h_1 =>
      DB r1 fun x2 =>
      (bif x2 then
        CallsH Tryz.prog 63 [.pointer f0, .string dir0, .string (⟨#[116, 109, 112, 46]⟩ ++ name0)] h_1 fun r2 h_2 =>
        DI .i64 r2 fun e0 =>
        (bif (e0 : Int) != 0 then
          Q (.int .i64 e0) h_2
        else
          CallsH Tryz.prog 64 [.pointer f0, .string dir0, .string (⟨#[116, 109, 112, 46]⟩ ++ name0)] h_2 fun r3 h_3 =>
          DI .i64 r3 fun e1 =>
          (bif (e1 : Int) != 0 then
            Q (.int .i64 e1) h_3
          else
            CallsH Tryz.prog 65 [.pointer f0, .string dir0, .string (⟨#[116, 109, 112, 46]⟩ ++ name0), .string b0] h_3 fun r4 h_4 =>
            DI .i64 r4 fun e2 =>
            (bif (e2 : Int) != 0 then
              Q (.int .i64 e2) h_4
            else
              CallsH Tryz.prog 66 [.pointer f0, .string dir0, .string (⟨#[116, 109, 112, 46]⟩ ++ name0)] h_4 fun r5 h_5 =>
              DI .i64 r5 fun e3 =>
              (bif (e3 : Int) != 0 then
                Q (.int .i64 e3) h_5
              else
                CallsH Tryz.prog 67 [.pointer f0, .string dir0, .string (⟨#[116, 109, 112, 46]⟩ ++ name0), .string name0] h_5 fun r6 h_6 =>
                DI .i64 r6 fun e4 =>
                (bif (e4 : Int) != 0 then
                  Q (.int .i64 e4) h_6
                else
                  CallsH Tryz.prog 68 [.pointer f0, .string dir0] h_6 fun r7 h_7 =>
                  DI .i64 r7 fun x3 =>
                  Q (.int .i64 x3) h_7)))))
      else
        CallsH Tryz.prog 64 [.pointer f0, .string dir0, .string (⟨#[116, 109, 112, 46]⟩ ++ name0)] h_1 fun r8 h_8 =>
        DI .i64 r8 fun e5 =>
        (bif (e5 : Int) != 0 then
          Q (.int .i64 e5) h_8
        else
          CallsH Tryz.prog 65 [.pointer f0, .string dir0, .string (⟨#[116, 109, 112, 46]⟩ ++ name0), .string b0] h_8 fun r9 h_9 =>
          DI .i64 r9 fun e6 =>
          (bif (e6 : Int) != 0 then
            Q (.int .i64 e6) h_9
          else
            CallsH Tryz.prog 66 [.pointer f0, .string dir0, .string (⟨#[116, 109, 112, 46]⟩ ++ name0)] h_9 fun r10 h_10 =>
            DI .i64 r10 fun e7 =>
            (bif (e7 : Int) != 0 then
              Q (.int .i64 e7) h_10
            else
              CallsH Tryz.prog 67 [.pointer f0, .string dir0, .string (⟨#[116, 109, 112, 46]⟩ ++ name0), .string name0] h_10 fun r11 h_11 =>
              DI .i64 r11 fun e8 =>
              (bif (e8 : Int) != 0 then
                Q (.int .i64 e8) h_11
              else
                CallsH Tryz.prog 68 [.pointer f0, .string dir0] h_11 fun r12 h_12 =>
                DI .i64 r12 fun x4 =>
                Q (.int .i64 x4) h_12)))))))
theorem F16_eq : (fun (f0 : Option Addr) (dir0 : ByteArray) (name0 : ByteArray) (b0 : ByteArray) (h : Heap) (Q : Value → Heap → Prop) => fnPT Tryz.prog Tryz.f16 (fun _ => annNil) (fun _ => []) (fun _ => none) [.pointer f0, .string dir0, .string name0, .string b0] h Q) = F16 := by kernel_rfl
theorem F16_ok {f0 : Option Addr} {dir0 : ByteArray} {name0 : ByteArray} {b0 : ByteArray} {h : Heap} {Q : Value → Heap → Prop} (H : F16 f0 dir0 name0 b0 h Q) : CallsH Tryz.prog 16 [.pointer f0, .string dir0, .string name0, .string b0] h Q :=
  callsH_of (ann := fun _ => annNil) (tys := fun _ => []) (pl := fun _ => none) Tryz.func16 (by kernel_rfl) (by have e := F16_eq; exact (congrFun (congrFun (congrFun (congrFun (congrFun (congrFun (e) f0) dir0) name0) b0) h) Q).symm ▸ H)

/-- headgate/headgateref07.Get -/
def F18 (f0 : Option Addr) (dir0 : ByteArray) (name0 : ByteArray) (h : Heap) (Q : Value → Heap → Prop) : Prop :=
  CallsH Tryz.prog 71 [.pointer f0, .string dir0, .string name0] h fun r0 h_0 =>
  ∃ (x0 : ByteArray), ∃ (x1 : Int), r0 = .tuple #[.string x0, .int .i64 x1] ∧
  (bif (x1 : Int) != 0 then
    Q (.tuple #[.string .empty, .int .i64 x1]) h_0
  else
    CallsH Tryz.prog 72 [.string x0, .int .i64 0] h_0 fun r1 h_1 =>
    ∃ (x2 : ByteArray), ∃ (x3 : Bool), r1 = .tuple #[.string x2, .bool x3] ∧
    (bif !x3 then
      Q (.tuple #[.string .empty, .int .i64 70]) h_1
    else
      (bif ((IntKind.wrap .i64 (((x2 : ByteArray).size : Int) + 8)) : Int) != ((x0 : ByteArray).size : Int) then
        Q (.tuple #[.string .empty, .int .i64 70]) h_1
      else
        Q (.tuple #[.string x2, .int .i64 0]) h_1)))
theorem F18_eq : (fun (f0 : Option Addr) (dir0 : ByteArray) (name0 : ByteArray) (h : Heap) (Q : Value → Heap → Prop) => fnPT Tryz.prog Tryz.f18 (fun _ => annNil) (fun _ => []) (fun _ => none) [.pointer f0, .string dir0, .string name0] h Q) = F18 := by kernel_rfl
theorem F18_ok {f0 : Option Addr} {dir0 : ByteArray} {name0 : ByteArray} {h : Heap} {Q : Value → Heap → Prop} (H : F18 f0 dir0 name0 h Q) : CallsH Tryz.prog 18 [.pointer f0, .string dir0, .string name0] h Q :=
  callsH_of (ann := fun _ => annNil) (tys := fun _ => []) (pl := fun _ => none) Tryz.func18 (by kernel_rfl) (by have e := F18_eq; exact (congrFun (congrFun (congrFun (congrFun (congrFun (e) f0) dir0) name0) h) Q).symm ▸ H)

/-- headgate/headgateref07.Clean -/
def F20 (f0 : Option Addr) (dir0 : ByteArray) (h : Heap) (Q : Value → Heap → Prop) : Prop :=
  CallsH Tryz.prog 61 [.pointer f0, .string dir0] h fun r0 h_0 =>
  ∃ (x0a : Option Addr), ∃ (x0l : Nat), ∃ (x0c : Nat), ∃ (x1 : Int), r0 = .tuple #[.slice x0a x0l x0c, .int .i64 x1] ∧
  (bif (x1 : Int) != 0 then
    Q (.tuple #[.int .i64 0, .int .i64 x1]) h_0
  else
    LoopH (fun again0 (s0 : Int × Int) h_1 =>
      (bif decide ((s0.2 : Int) < (x0l : Int)) then
        IdxA x0a x0l s0.2 1 fun a0 =>
        Ld h_1 a0 fun v0 => DS v0 fun x2 =>
        (bif decide ((((x2 : ByteArray).size : Int) : Int) ≥ 4) then
          IdxA x0a x0l s0.2 1 fun a1 =>
          Ld h_1 a1 fun v1 => DS v1 fun x3 =>
          SlS x3 0 4 fun s1 =>
          (bif strEq s1 ⟨#[116, 109, 112, 46]⟩ then
            IdxA x0a x0l s0.2 1 fun a2 =>
            Ld h_1 a2 fun v2 => DS v2 fun x4 =>
            CallsH Tryz.prog 63 [.pointer f0, .string dir0, .string x4] h_1 fun r1 h_2 =>
            DI .i64 r1 fun e0 =>
            (bif (e0 : Int) != 0 then
              Q (.tuple #[.int .i64 0, .int .i64 e0]) h_2
            else
              again0 (IntKind.wrap .i64 (s0.1 + 1), IntKind.wrap .i64 (s0.2 + 1)) h_2)
          else
            again0 (s0.1, IntKind.wrap .i64 (s0.2 + 1)) h_1)
        else
          again0 (s0.1, IntKind.wrap .i64 (s0.2 + 1)) h_1)
      else
        (bif decide ((s0.1 : Int) > 0) then
          CallsH Tryz.prog 68 [.pointer f0, .string dir0] h_1 fun r2 h_3 =>
          DI .i64 r2 fun e1 =>
          (bif (e1 : Int) != 0 then
            Q (.tuple #[.int .i64 0, .int .i64 e1]) h_3
          else
            Q (.tuple #[.int .i64 s0.1, .int .i64 0]) h_3)
        else
          Q (.tuple #[.int .i64 s0.1, .int .i64 0]) h_1))) (0, 0) h_0)
theorem F20_eq : (fun (f0 : Option Addr) (dir0 : ByteArray) (h : Heap) (Q : Value → Heap → Prop) => fnPT Tryz.prog Tryz.f20 (fun i => bif Nat.beq i 0 then annCons 8 (codI .i64) (annOne 9 (codI .i64)) else annNil) (fun _ => []) (fun _ => none) [.pointer f0, .string dir0] h Q) = F20 := by kernel_rfl
theorem F20_ok {f0 : Option Addr} {dir0 : ByteArray} {h : Heap} {Q : Value → Heap → Prop} (H : F20 f0 dir0 h Q) : CallsH Tryz.prog 20 [.pointer f0, .string dir0] h Q :=
  callsH_of (ann := fun i => bif Nat.beq i 0 then annCons 8 (codI .i64) (annOne 9 (codI .i64)) else annNil) (tys := fun _ => []) (pl := fun _ => none) Tryz.func20 (by kernel_rfl) (by have e := F20_eq; exact (congrFun (congrFun (congrFun (congrFun (e) f0) dir0) h) Q).symm ▸ H)

/-- headgate/headgateref07.Ready -/
def F22 (f0 : Option Addr) (dir0 : ByteArray) (h : Heap) (Q : Value → Heap → Prop) : Prop :=
  CallsH Tryz.prog 61 [.pointer f0, .string dir0] h fun r0 h_0 =>
  ∃ (x0a : Option Addr), ∃ (x0l : Nat), ∃ (x0c : Nat), ∃ (x1 : Int), r0 = .tuple #[.slice x0a x0l x0c, .int .i64 x1] ∧
  (bif (x1 : Int) == 61 then
    CallsH Tryz.prog 75 [.pointer f0, .string dir0] h_0 fun r1 h_1 =>
    DI .i64 r1 fun e0 =>
    (bif (e0 : Int) != 0 then
      Q (.tuple #[.slice none 0 0, .int .i64 e0]) h_1
    else
      CallsH Tryz.prog 20 [.pointer f0, .string dir0] h_1 fun r2 h_2 =>
      ∃ (x2 : Int), ∃ (x3 : Int), r2 = .tuple #[.int .i64 x2, .int .i64 x3] ∧
      (bif (x3 : Int) != 0 then
        Q (.tuple #[.slice none 0 0, .int .i64 x3]) h_2
      else
        CallsH Tryz.prog 61 [.pointer f0, .string dir0] h_2 fun r3 h_3 =>
        ∃ (x4a : Option Addr), ∃ (x4l : Nat), ∃ (x4c : Nat), ∃ (x5 : Int), r3 = .tuple #[.slice x4a x4l x4c, .int .i64 x5] ∧
        Q (.tuple #[.slice x4a x4l x4c, .int .i64 x5]) h_3))
  else
    CallsH Tryz.prog 20 [.pointer f0, .string dir0] h_0 fun r4 h_4 =>
    ∃ (x6 : Int), ∃ (x7 : Int), r4 = .tuple #[.int .i64 x6, .int .i64 x7] ∧
    (bif (x7 : Int) != 0 then
      Q (.tuple #[.slice none 0 0, .int .i64 x7]) h_4
    else
      CallsH Tryz.prog 61 [.pointer f0, .string dir0] h_4 fun r5 h_5 =>
      ∃ (x8a : Option Addr), ∃ (x8l : Nat), ∃ (x8c : Nat), ∃ (x9 : Int), r5 = .tuple #[.slice x8a x8l x8c, .int .i64 x9] ∧
      Q (.tuple #[.slice x8a x8l x8c, .int .i64 x9]) h_5))
theorem F22_eq : (fun (f0 : Option Addr) (dir0 : ByteArray) (h : Heap) (Q : Value → Heap → Prop) => fnPT Tryz.prog Tryz.f22 (fun _ => annNil) (fun _ => []) (fun _ => none) [.pointer f0, .string dir0] h Q) = F22 := by kernel_rfl
theorem F22_ok {f0 : Option Addr} {dir0 : ByteArray} {h : Heap} {Q : Value → Heap → Prop} (H : F22 f0 dir0 h Q) : CallsH Tryz.prog 22 [.pointer f0, .string dir0] h Q :=
  callsH_of (ann := fun _ => annNil) (tys := fun _ => []) (pl := fun _ => none) Tryz.func22 (by kernel_rfl) (by have e := F22_eq; exact (congrFun (congrFun (congrFun (congrFun (e) f0) dir0) h) Q).symm ▸ H)

/-- headgate/headgateref07.Same -/
def F23 (a0a : Option Addr) (a0l : Nat) (a0c : Nat) (b0a : Option Addr) (b0l : Nat) (b0c : Nat) (h : Heap) (Q : Value → Heap → Prop) : Prop :=
  (bif ((a0l : Int) : Int) != (b0l : Int) then
    Q (.bool false) h
  else
    LoopH (fun again0 (s0 : Int) h_0 =>
      (bif decide ((s0 : Int) < (a0l : Int)) then
        IdxA a0a a0l s0 1 fun a1 =>
        Ld h_0 a1 fun v0 => DS v0 fun x0 =>
        IdxA b0a b0l s0 1 fun a2 =>
        Ld h_0 a2 fun v1 => DS v1 fun x1 =>
        (bif !strEq x0 x1 then
          Q (.bool false) h_0
        else
          again0 (IntKind.wrap .i64 (s0 + 1)) h_0)
      else
        Q (.bool true) h_0)) 0 h)
theorem F23_eq : (fun (a0a : Option Addr) (a0l : Nat) (a0c : Nat) (b0a : Option Addr) (b0l : Nat) (b0c : Nat) (h : Heap) (Q : Value → Heap → Prop) => fnPT Tryz.prog Tryz.f23 (fun i => bif Nat.beq i 0 then annOne 5 (codI .i64) else annNil) (fun _ => []) (fun _ => none) [.slice a0a a0l a0c, .slice b0a b0l b0c] h Q) = F23 := by kernel_rfl
theorem F23_ok {a0a : Option Addr} {a0l : Nat} {a0c : Nat} {b0a : Option Addr} {b0l : Nat} {b0c : Nat} {h : Heap} {Q : Value → Heap → Prop} (H : F23 a0a a0l a0c b0a b0l b0c h Q) : CallsH Tryz.prog 23 [.slice a0a a0l a0c, .slice b0a b0l b0c] h Q :=
  callsH_of (ann := fun i => bif Nat.beq i 0 then annOne 5 (codI .i64) else annNil) (tys := fun _ => []) (pl := fun _ => none) Tryz.func23 (by kernel_rfl) (by have e := F23_eq; exact (congrFun (congrFun (congrFun (congrFun (congrFun (congrFun (congrFun (congrFun (e) a0a) a0l) a0c) b0a) b0l) b0c) h) Q).symm ▸ H)

/-- headgate/headgateref07.has -/
def F62 (l_0a : Option Addr) (l_0l : Nat) (l_0c : Nat) (s0 : ByteArray) (h : Heap) (Q : Value → Heap → Prop) : Prop :=
  LoopH (fun again0 (s1 : Int) h_0 =>
    (bif decide ((s1 : Int) < (l_0l : Int)) then
      IdxA l_0a l_0l s1 1 fun a0 =>
      Ld h_0 a0 fun v0 => DS v0 fun x0 =>
      (bif strEq x0 s0 then
        Q (.bool true) h_0
      else
        again0 (IntKind.wrap .i64 (s1 + 1)) h_0)
    else
      Q (.bool false) h_0)) 0 h
theorem F62_eq : (fun (l_0a : Option Addr) (l_0l : Nat) (l_0c : Nat) (s0 : ByteArray) (h : Heap) (Q : Value → Heap → Prop) => fnPT Tryz.prog Tryz.f62 (fun i => bif Nat.beq i 0 then annOne 5 (codI .i64) else annNil) (fun _ => []) (fun _ => none) [.slice l_0a l_0l l_0c, .string s0] h Q) = F62 := by kernel_rfl
theorem F62_ok {l_0a : Option Addr} {l_0l : Nat} {l_0c : Nat} {s0 : ByteArray} {h : Heap} {Q : Value → Heap → Prop} (H : F62 l_0a l_0l l_0c s0 h Q) : CallsH Tryz.prog 62 [.slice l_0a l_0l l_0c, .string s0] h Q :=
  callsH_of (ann := fun i => bif Nat.beq i 0 then annOne 5 (codI .i64) else annNil) (tys := fun _ => []) (pl := fun _ => none) Tryz.func62 (by kernel_rfl) (by have e := F62_eq; exact (congrFun (congrFun (congrFun (congrFun (congrFun (congrFun (e) l_0a) l_0l) l_0c) s0) h) Q).symm ▸ H)

/-- headgate/headgateref05.Pack -/
def F46 (s0 : ByteArray) (h : Heap) (Q : Value → Heap → Prop) : Prop :=
  (bif decide ((((s0 : ByteArray).size : Int) : Int) > 16777208) then
    Q (.tuple #[.string .empty, .int .i64 50]) h
  else
    CallsH Tryz.prog 117 [.int .u32 (IntKind.wrap .u32 ((s0 : ByteArray).size : Int))] h fun r0 h_0 =>
    DS r0 fun n0 =>
    (n0 : ByteArray).size + (s0 : ByteArray).size ≤ 9223372036854775807 ∧
    CallsH Tryz.prog 118 [.string (n0 ++ s0)] h_0 fun r1 h_1 =>
    DI .u32 r1 fun x0 =>
    CallsH Tryz.prog 117 [.int .u32 x0] h_1 fun r2 h_2 =>
    DS r2 fun x1 =>
    (n0 : ByteArray).size + (x1 : ByteArray).size ≤ 9223372036854775807 ∧
    (n0 ++ x1 : ByteArray).size + (s0 : ByteArray).size ≤ 9223372036854775807 ∧
    Q (.tuple #[.string ((n0 ++ x1) ++ s0), .int .i64 0]) h_2)
theorem F46_eq : (fun (s0 : ByteArray) (h : Heap) (Q : Value → Heap → Prop) => fnPT Tryz.prog Tryz.f46 (fun _ => annNil) (fun _ => []) (fun _ => none) [.string s0] h Q) = F46 := by kernel_rfl
theorem F46_ok {s0 : ByteArray} {h : Heap} {Q : Value → Heap → Prop} (H : F46 s0 h Q) : CallsH Tryz.prog 46 [.string s0] h Q :=
  callsH_of (ann := fun _ => annNil) (tys := fun _ => []) (pl := fun _ => none) Tryz.func46 (by kernel_rfl) (by have e := F46_eq; exact (congrFun (congrFun (congrFun (e) s0) h) Q).symm ▸ H)

/-- headgate/headgateref05.At -/
def F72 (s0 : ByteArray) (at_0 : Int) (h : Heap) (Q : Value → Heap → Prop) : Prop :=
  (bif decide ((at_0 : Int) < 0) then
    Q (.tuple #[.string .empty, .bool false]) h
  else
    (bif decide (((IntKind.wrap .i64 (((s0 : ByteArray).size : Int) - at_0)) : Int) < 8) then
      Q (.tuple #[.string .empty, .bool false]) h
    else
      0 ≤ (at_0 : Int) ∧ (at_0 : Int) < ((s0 : ByteArray).size : Int) ∧
      0 ≤ (IntKind.wrap .i64 (at_0 + 1) : Int) ∧ (IntKind.wrap .i64 (at_0 + 1) : Int) < ((s0 : ByteArray).size : Int) ∧
      0 ≤ (IntKind.wrap .i64 (at_0 + 2) : Int) ∧ (IntKind.wrap .i64 (at_0 + 2) : Int) < ((s0 : ByteArray).size : Int) ∧
      0 ≤ (IntKind.wrap .i64 (at_0 + 3) : Int) ∧ (IntKind.wrap .i64 (at_0 + 3) : Int) < ((s0 : ByteArray).size : Int) ∧
      (bif decide (((IntKind.wrap .u64 ((IntKind.wrap .u64 ((IntKind.wrap .u64 ((IntKind.wrap .u64 ((IntKind.wrap .u64 (bt s0 at_0)) * 16777216)) + (IntKind.wrap .u64 ((IntKind.wrap .u64 (bt s0 (IntKind.wrap .i64 (at_0 + 1)))) * 65536)))) + (IntKind.wrap .u64 ((IntKind.wrap .u64 (bt s0 (IntKind.wrap .i64 (at_0 + 2)))) * 256)))) + (IntKind.wrap .u64 (bt s0 (IntKind.wrap .i64 (at_0 + 3)))))) : Int) > (IntKind.wrap .u64 (IntKind.wrap .i64 ((IntKind.wrap .i64 (((s0 : ByteArray).size : Int) - at_0)) - 8)))) then
        Q (.tuple #[.string .empty, .bool false]) h
      else
        SlS s0 (IntKind.wrap .i64 (at_0 + 8)) (IntKind.wrap .i64 ((IntKind.wrap .i64 (at_0 + 8)) + (IntKind.wrap .i64 (IntKind.wrap .u64 ((IntKind.wrap .u64 ((IntKind.wrap .u64 ((IntKind.wrap .u64 ((IntKind.wrap .u64 (bt s0 at_0)) * 16777216)) + (IntKind.wrap .u64 ((IntKind.wrap .u64 (bt s0 (IntKind.wrap .i64 (at_0 + 1)))) * 65536)))) + (IntKind.wrap .u64 ((IntKind.wrap .u64 (bt s0 (IntKind.wrap .i64 (at_0 + 2)))) * 256)))) + (IntKind.wrap .u64 (bt s0 (IntKind.wrap .i64 (at_0 + 3))))))))) fun s1 =>
        CallsH Tryz.prog 46 [.string s1] h fun r0 h_0 =>
        ∃ (x0 : ByteArray), ∃ (x1 : Int), r0 = .tuple #[.string x0, .int .i64 x1] ∧
        (bif (x1 : Int) == 0 then
          SlS s0 at_0 (IntKind.wrap .i64 ((IntKind.wrap .i64 (at_0 + 8)) + (IntKind.wrap .i64 (IntKind.wrap .u64 ((IntKind.wrap .u64 ((IntKind.wrap .u64 ((IntKind.wrap .u64 ((IntKind.wrap .u64 (bt s0 at_0)) * 16777216)) + (IntKind.wrap .u64 ((IntKind.wrap .u64 (bt s0 (IntKind.wrap .i64 (at_0 + 1)))) * 65536)))) + (IntKind.wrap .u64 ((IntKind.wrap .u64 (bt s0 (IntKind.wrap .i64 (at_0 + 2)))) * 256)))) + (IntKind.wrap .u64 (bt s0 (IntKind.wrap .i64 (at_0 + 3))))))))) fun s2 =>
          Q (.tuple #[.string s1, .bool (strEq x0 s2)]) h_0
        else
          Q (.tuple #[.string s1, .bool false]) h_0))))
theorem F72_eq : (fun (s0 : ByteArray) (at_0 : Int) (h : Heap) (Q : Value → Heap → Prop) => fnPT Tryz.prog Tryz.f72 (fun _ => annNil) (fun _ => []) (fun _ => none) [.string s0, .int .i64 at_0] h Q) = F72 := by kernel_rfl
theorem F72_ok {s0 : ByteArray} {at_0 : Int} {h : Heap} {Q : Value → Heap → Prop} (H : F72 s0 at_0 h Q) : CallsH Tryz.prog 72 [.string s0, .int .i64 at_0] h Q :=
  callsH_of (ann := fun _ => annNil) (tys := fun _ => []) (pl := fun _ => none) Tryz.func72 (by kernel_rfl) (by have e := F72_eq; exact (congrFun (congrFun (congrFun (congrFun (e) s0) at_0) h) Q).symm ▸ H)

/-- headgate/headgateref05.four -/
def F117 (n0 : Int) (h : Heap) (Q : Value → Heap → Prop) : Prop :=
  (16777216 : Int) ≠ 0 ∧
  (65536 : Int) ≠ 0 ∧
  (256 : Int) ≠ 0 ∧
  (256 : Int) ≠ 0 ∧
  (256 : Int) ≠ 0 ∧
  (256 : Int) ≠ 0 ∧
  Al h (.cells #[.int .u8 (IntKind.wrap .u8 (IntKind.wrap .u32 (Int.tdiv n0 16777216))), .int .u8 (IntKind.wrap .u8 (Int.tmod (IntKind.wrap .u32 (Int.tdiv n0 65536)) 256)), .int .u8 (IntKind.wrap .u8 (Int.tmod (IntKind.wrap .u32 (Int.tdiv n0 256)) 256)), .int .u8 (IntKind.wrap .u8 (Int.tmod n0 256))] 5) fun b0 h_0 =>
  ∃ bs0 : ByteArray, BytesIn h_0 (some (Addr.mk b0 0 none)) 4 bs0 ∧
  Q (.string bs0) h_0
theorem F117_eq : (fun (n0 : Int) (h : Heap) (Q : Value → Heap → Prop) => fnPT Tryz.prog Tryz.f117 (fun _ => annNil) (fun _ => []) (fun _ => none) [.int .u32 n0] h Q) = F117 := by kernel_rfl
theorem F117_ok {n0 : Int} {h : Heap} {Q : Value → Heap → Prop} (H : F117 n0 h Q) : CallsH Tryz.prog 117 [.int .u32 n0] h Q :=
  callsH_of (ann := fun _ => annNil) (tys := fun _ => []) (pl := fun _ => none) Tryz.func117 (by kernel_rfl) (by have e := F117_eq; exact (congrFun (congrFun (congrFun (e) n0) h) Q).symm ▸ H)

/-- headgate/headgateref02.Of -/
def F118 (b0 : ByteArray) (h : Heap) (Q : Value → Heap → Prop) : Prop :=
  LoopH (fun again0 (s0 : Int × Int) h_0 =>
    (bif decide ((s0.2 : Int) < ((b0 : ByteArray).size : Int)) then
      0 ≤ (s0.2 : Int) ∧ (s0.2 : Int) < ((b0 : ByteArray).size : Int) ∧
      LoopH (fun again1 (s1 : Int × Int) h_1 =>
        (bif decide ((s1.2 : Int) < 8) then
          (2 : Int) ≠ 0 ∧
          (2 : Int) ≠ 0 ∧
          (bif ((Int.tmod s1.1 2) : Int) == 1 then
            again1 (bitsI .xor .u64 (IntKind.wrap .u64 (Int.tdiv s1.1 2)) 2197175160, IntKind.wrap .i64 (s1.2 + 1)) h_1
          else
            again1 (IntKind.wrap .u64 (Int.tdiv s1.1 2), IntKind.wrap .i64 (s1.2 + 1)) h_1)
        else
          again0 (s1.1, IntKind.wrap .i64 (s0.2 + 1)) h_1)) (bitsI .xor .u64 s0.1 (IntKind.wrap .u64 (bt b0 s0.2)), 0) h_0
    else
      Q (.int .u32 (IntKind.wrap .u32 (bitsI .xor .u64 s0.1 4294967295))) h_0)) (4294967295, 0) h
theorem F118_eq : (fun (b0 : ByteArray) (h : Heap) (Q : Value → Heap → Prop) => fnPT Tryz.prog Tryz.f118 (fun i => bif Nat.beq i 0 then annCons 3 (codI .u64) (annOne 4 (codI .i64)) else bif Nat.beq i 2 then annCons 3 (codI .u64) (annOne 5 (codI .i64)) else annNil) (fun _ => []) (fun _ => none) [.string b0] h Q) = F118 := by kernel_rfl
theorem F118_ok {b0 : ByteArray} {h : Heap} {Q : Value → Heap → Prop} (H : F118 b0 h Q) : CallsH Tryz.prog 118 [.string b0] h Q :=
  callsH_of (ann := fun i => bif Nat.beq i 0 then annCons 3 (codI .u64) (annOne 4 (codI .i64)) else bif Nat.beq i 2 then annCons 3 (codI .u64) (annOne 5 (codI .i64)) else annNil) (tys := fun _ => []) (pl := fun _ => none) Tryz.func118 (by kernel_rfl) (by have e := F118_eq; exact (congrFun (congrFun (congrFun (e) b0) h) Q).symm ▸ H)

end Go.Proofs.YticjjdhaikbdaaaGreat
