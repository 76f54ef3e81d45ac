/- The texts over heaps of functions of the program: written by a program of this claim's writer (decomp.py); Lean checks each against the code. -/
import Derived.Test.YticjjdhaikbdaaaSgFwA
import Derived.Test.YticjjdhaikbdaaaProg
namespace Go.Proofs.Yticjjdhaikbdaaa
open Go Go.RowKit
set_option linter.unusedVariables false
set_option maxRecDepth 100000

/-- headgate/headgatelaw10.SegmentParts -/
def F12b (recs0a : Option Addr) (recs0l : Nat) (recs0c : Nat) (a0 : Int) (b0 : Int) (from_0 : Int) (to0 : Int) (h : Heap) (Q : Value → Heap → Prop) : Prop :=
  CallsH Try.prog 48 [] h fun r0 h_0 =>
  DB r0 fun x0 =>
  (bif !x0 then
    Q (.bool false) h_0
  else
    LoopH (fun again0 (s0 : Sl × Sl × Int) h_1 =>
      (bif decide ((s0.2.2 : Int) < 2) then
        CallsH Try.prog 15 [.int .i64 1048576] h_1 fun r1 h_2 =>
        ∃ (x1 : Option Addr), ∃ (x2 : Int), r1 = .tuple #[.pointer x1, .int .i64 x2] ∧
        (bif (s0.2.2 : Int) == 1 then
          CallsH Try.prog 49 [.pointer x1, .string ⟨#[112]⟩, .int .i64 (IntKind.wrap .i64 (1 + (IntKind.wrap .i64 b0)))] h_2 fun r2 h_3 =>
          ∃ (x3 : Option Addr), ∃ (x4 : Int), r2 = .tuple #[.pointer x3, .int .i64 x4] ∧
          (bif (x4 : Int) != 0 then
            Q (.bool false) h_3
          else
            LoopH (fun again1 (s1 : Int × Int) h_4 =>
              (bif decide ((s1.2 : Int) < (recs0l : Int)) then
                (bif decide ((s1.2 : Int) < 30) then
                  IdxA recs0a recs0l s1.2 1 fun a1 =>
                  Ld h_4 a1 fun v0 => DS v0 fun x5 =>
                  (bif decide ((((x5 : ByteArray).size : Int) : Int) > 200) then
                    Q (.bool true) h_4
                  else
                    IdxA recs0a recs0l s1.2 1 fun a2 =>
                    Ld h_4 a2 fun v1 => DS v1 fun x6 =>
                    RunH Try.prog (Go.convert 9 31 (.string x6)) h_4 fun r3 h_5 =>
                    DSl r3 fun x7a x7l x7c =>
                    CallsH Try.prog 50 [.pointer x3, .slice x7a x7l x7c] h_5 fun r4 h_6 =>
                    ∃ (x8 : Int), ∃ (x9 : Int), r4 = .tuple #[.int .i64 x8, .int .i64 x9] ∧
                    (bif (x9 : Int) != 0 then
                      Q (.bool false) h_6
                    else
                      (bif (x8 : Int) != s1.1 then
                        Q (.bool false) h_6
                      else
                        again1 (IntKind.wrap .i64 (s1.1 + 1), IntKind.wrap .i64 (s1.2 + 1)) h_6)))
                else
                  ((IntKind.wrap .i64 (s1.1 + 1)) : Int) ≠ 0 ∧
                  ((IntKind.wrap .i64 ((IntKind.wrap .i64 (s1.1 - (Int.tmod (IntKind.wrap .i64 from_0) (IntKind.wrap .i64 (s1.1 + 1))))) + 1)) : Int) ≠ 0 ∧
                  CallsH Try.prog 51 [.pointer x3, .int .i64 (Int.tmod (IntKind.wrap .i64 from_0) (IntKind.wrap .i64 (s1.1 + 1))), .int .i64 (IntKind.wrap .i64 ((Int.tmod (IntKind.wrap .i64 from_0) (IntKind.wrap .i64 (s1.1 + 1))) + (Int.tmod (IntKind.wrap .i64 to0) (IntKind.wrap .i64 ((IntKind.wrap .i64 (s1.1 - (Int.tmod (IntKind.wrap .i64 from_0) (IntKind.wrap .i64 (s1.1 + 1))))) + 1)))))] h_4 fun r5 h_7 =>
                  ∃ (x10a : Option Addr), ∃ (x10l : Nat), ∃ (x10c : Nat), ∃ (x11 : Int), r5 = .tuple #[.slice x10a x10l x10c, .int .i64 x11] ∧
                  (bif (x11 : Int) != 0 then
                    Q (.bool false) h_7
                  else
                    (bif ((x10l : Int) : Int) != (IntKind.wrap .i64 ((IntKind.wrap .i64 ((Int.tmod (IntKind.wrap .i64 from_0) (IntKind.wrap .i64 (s1.1 + 1))) + (Int.tmod (IntKind.wrap .i64 to0) (IntKind.wrap .i64 ((IntKind.wrap .i64 (s1.1 - (Int.tmod (IntKind.wrap .i64 from_0) (IntKind.wrap .i64 (s1.1 + 1))))) + 1))))) - (Int.tmod (IntKind.wrap .i64 from_0) (IntKind.wrap .i64 (s1.1 + 1))))) then
                      Q (.bool false) h_7
                    else
                      LoopH (fun again2 (s2 : Sl × Sl × Int) h_8 =>
                        (bif decide ((s2.2.2 : Int) < (x10l : Int)) then
                          (bif (s0.2.2 : Int) == 0 then
                            IdxA x10a x10l s2.2.2 1 fun a3 =>
                            Ld h_8 a3 fun v2 => DSl v2 fun x12a x12l x12c =>
                            ∃ bs0 : ByteArray, BytesIn h_8 x12a x12l bs0 ∧
                            Al h_8 (.cells #[.string bs0] 9) fun b1 h_9 =>
                            RunH Try.prog (Builtin.append_ #[41, 41] 41 #[.slice s2.1.a s2.1.l s2.1.c, .slice (some (Addr.mk b1 0 none)) 1 1]) h_9 fun r7 h_10 =>
                            DSl r7 fun x13a x13l x13c =>
                            IdxA x10a x10l s2.2.2 1 fun a4 =>
                            Ld h_10 a4 fun v3 => DSl v3 fun x14a x14l x14c =>
                            ∃ bs1 : ByteArray, BytesIn h_10 x14a x14l bs1 ∧
                            IdxA recs0a recs0l (IntKind.wrap .i64 ((Int.tmod (IntKind.wrap .i64 from_0) (IntKind.wrap .i64 (s1.1 + 1))) + s2.2.2)) 1 fun a5 =>
                            Ld h_10 a5 fun v4 => DS v4 fun x15 =>
                            (bif !strEq bs1 x15 then
                              Q (.bool false) h_10
                            else
                              again2 (⟨x13a, x13l, x13c⟩, ⟨s2.2.1.a, s2.2.1.l, s2.2.1.c⟩, IntKind.wrap .i64 (s2.2.2 + 1)) h_10)
                          else
                            IdxA x10a x10l s2.2.2 1 fun a6 =>
                            Ld h_8 a6 fun v5 => DSl v5 fun x16a x16l x16c =>
                            ∃ bs2 : ByteArray, BytesIn h_8 x16a x16l bs2 ∧
                            Al h_8 (.cells #[.string bs2] 9) fun b2 h_11 =>
                            RunH Try.prog (Builtin.append_ #[41, 41] 41 #[.slice s2.2.1.a s2.2.1.l s2.2.1.c, .slice (some (Addr.mk b2 0 none)) 1 1]) h_11 fun r9 h_12 =>
                            DSl r9 fun y0a y0l y0c =>
                            IdxA x10a x10l s2.2.2 1 fun a7 =>
                            Ld h_12 a7 fun v6 => DSl v6 fun x17a x17l x17c =>
                            ∃ bs3 : ByteArray, BytesIn h_12 x17a x17l bs3 ∧
                            IdxA recs0a recs0l (IntKind.wrap .i64 ((Int.tmod (IntKind.wrap .i64 from_0) (IntKind.wrap .i64 (s1.1 + 1))) + s2.2.2)) 1 fun a8 =>
                            Ld h_12 a8 fun v7 => DS v7 fun x18 =>
                            (bif !strEq bs3 x18 then
                              Q (.bool false) h_12
                            else
                              again2 (⟨s2.1.a, s2.1.l, s2.1.c⟩, ⟨y0a, y0l, y0c⟩, IntKind.wrap .i64 (s2.2.2 + 1)) h_12))
                        else
                          again0 (⟨s2.1.a, s2.1.l, s2.1.c⟩, ⟨s2.2.1.a, s2.2.1.l, s2.2.1.c⟩, IntKind.wrap .i64 (s0.2.2 + 1)) h_8)) (⟨s0.1.a, s0.1.l, s0.1.c⟩, ⟨s0.2.1.a, s0.2.1.l, s0.2.1.c⟩, 0) h_7)))
              else
                ((IntKind.wrap .i64 (s1.1 + 1)) : Int) ≠ 0 ∧
                ((IntKind.wrap .i64 ((IntKind.wrap .i64 (s1.1 - (Int.tmod (IntKind.wrap .i64 from_0) (IntKind.wrap .i64 (s1.1 + 1))))) + 1)) : Int) ≠ 0 ∧
                CallsH Try.prog 51 [.pointer x3, .int .i64 (Int.tmod (IntKind.wrap .i64 from_0) (IntKind.wrap .i64 (s1.1 + 1))), .int .i64 (IntKind.wrap .i64 ((Int.tmod (IntKind.wrap .i64 from_0) (IntKind.wrap .i64 (s1.1 + 1))) + (Int.tmod (IntKind.wrap .i64 to0) (IntKind.wrap .i64 ((IntKind.wrap .i64 (s1.1 - (Int.tmod (IntKind.wrap .i64 from_0) (IntKind.wrap .i64 (s1.1 + 1))))) + 1)))))] h_4 fun r10 h_13 =>
                ∃ (x19a : Option Addr), ∃ (x19l : Nat), ∃ (x19c : Nat), ∃ (x20 : Int), r10 = .tuple #[.slice x19a x19l x19c, .int .i64 x20] ∧
                (bif (x20 : Int) != 0 then
                  Q (.bool false) h_13
                else
                  (bif ((x19l : Int) : Int) != (IntKind.wrap .i64 ((IntKind.wrap .i64 ((Int.tmod (IntKind.wrap .i64 from_0) (IntKind.wrap .i64 (s1.1 + 1))) + (Int.tmod (IntKind.wrap .i64 to0) (IntKind.wrap .i64 ((IntKind.wrap .i64 (s1.1 - (Int.tmod (IntKind.wrap .i64 from_0) (IntKind.wrap .i64 (s1.1 + 1))))) + 1))))) - (Int.tmod (IntKind.wrap .i64 from_0) (IntKind.wrap .i64 (s1.1 + 1))))) then
                    Q (.bool false) h_13
                  else
                    LoopH (fun again3 (s3 : Sl × Sl × Int) h_14 =>
                      (bif decide ((s3.2.2 : Int) < (x19l : Int)) then
                        (bif (s0.2.2 : Int) == 0 then
                          IdxA x19a x19l s3.2.2 1 fun a9 =>
                          Ld h_14 a9 fun v8 => DSl v8 fun x21a x21l x21c =>
                          ∃ bs4 : ByteArray, BytesIn h_14 x21a x21l bs4 ∧
                          Al h_14 (.cells #[.string bs4] 9) fun b3 h_15 =>
                          RunH Try.prog (Builtin.append_ #[41, 41] 41 #[.slice s3.1.a s3.1.l s3.1.c, .slice (some (Addr.mk b3 0 none)) 1 1]) h_15 fun r12 h_16 =>
                          DSl r12 fun x22a x22l x22c =>
                          IdxA x19a x19l s3.2.2 1 fun a10 =>
                          Ld h_16 a10 fun v9 => DSl v9 fun x23a x23l x23c =>
                          ∃ bs5 : ByteArray, BytesIn h_16 x23a x23l bs5 ∧
                          IdxA recs0a recs0l (IntKind.wrap .i64 ((Int.tmod (IntKind.wrap .i64 from_0) (IntKind.wrap .i64 (s1.1 + 1))) + s3.2.2)) 1 fun a11 =>
                          Ld h_16 a11 fun v10 => DS v10 fun x24 =>
                          (bif !strEq bs5 x24 then
                            Q (.bool false) h_16
                          else
                            again3 (⟨x22a, x22l, x22c⟩, ⟨s3.2.1.a, s3.2.1.l, s3.2.1.c⟩, IntKind.wrap .i64 (s3.2.2 + 1)) h_16)
                        else
                          IdxA x19a x19l s3.2.2 1 fun a12 =>
                          Ld h_14 a12 fun v11 => DSl v11 fun x25a x25l x25c =>
                          ∃ bs6 : ByteArray, BytesIn h_14 x25a x25l bs6 ∧
                          Al h_14 (.cells #[.string bs6] 9) fun b4 h_17 =>
                          RunH Try.prog (Builtin.append_ #[41, 41] 41 #[.slice s3.2.1.a s3.2.1.l s3.2.1.c, .slice (some (Addr.mk b4 0 none)) 1 1]) h_17 fun r14 h_18 =>
                          DSl r14 fun y1a y1l y1c =>
                          IdxA x19a x19l s3.2.2 1 fun a13 =>
                          Ld h_18 a13 fun v12 => DSl v12 fun x26a x26l x26c =>
                          ∃ bs7 : ByteArray, BytesIn h_18 x26a x26l bs7 ∧
                          IdxA recs0a recs0l (IntKind.wrap .i64 ((Int.tmod (IntKind.wrap .i64 from_0) (IntKind.wrap .i64 (s1.1 + 1))) + s3.2.2)) 1 fun a14 =>
                          Ld h_18 a14 fun v13 => DS v13 fun x27 =>
                          (bif !strEq bs7 x27 then
                            Q (.bool false) h_18
                          else
                            again3 (⟨s3.1.a, s3.1.l, s3.1.c⟩, ⟨y1a, y1l, y1c⟩, IntKind.wrap .i64 (s3.2.2 + 1)) h_18))
                      else
                        again0 (⟨s3.1.a, s3.1.l, s3.1.c⟩, ⟨s3.2.1.a, s3.2.1.l, s3.2.1.c⟩, IntKind.wrap .i64 (s0.2.2 + 1)) h_14)) (⟨s0.1.a, s0.1.l, s0.1.c⟩, ⟨s0.2.1.a, s0.2.1.l, s0.2.1.c⟩, 0) h_13)))) (0, 0) h_3)
        else
          CallsH Try.prog 49 [.pointer x1, .string ⟨#[112]⟩, .int .i64 (IntKind.wrap .i64 (1 + (IntKind.wrap .i64 a0)))] h_2 fun r15 h_19 =>
          ∃ (x28 : Option Addr), ∃ (x29 : Int), r15 = .tuple #[.pointer x28, .int .i64 x29] ∧
          (bif (x29 : Int) != 0 then
            Q (.bool false) h_19
          else
            LoopH (fun again4 (s4 : Int × Int) h_20 =>
              (bif decide ((s4.2 : Int) < (recs0l : Int)) then
                (bif decide ((s4.2 : Int) < 30) then
                  IdxA recs0a recs0l s4.2 1 fun a15 =>
                  Ld h_20 a15 fun v14 => DS v14 fun x30 =>
                  (bif decide ((((x30 : ByteArray).size : Int) : Int) > 200) then
                    Q (.bool true) h_20
                  else
                    IdxA recs0a recs0l s4.2 1 fun a16 =>
                    Ld h_20 a16 fun v15 => DS v15 fun x31 =>
                    RunH Try.prog (Go.convert 9 31 (.string x31)) h_20 fun r16 h_21 =>
                    DSl r16 fun x32a x32l x32c =>
                    CallsH Try.prog 50 [.pointer x28, .slice x32a x32l x32c] h_21 fun r17 h_22 =>
                    ∃ (x33 : Int), ∃ (x34 : Int), r17 = .tuple #[.int .i64 x33, .int .i64 x34] ∧
                    (bif (x34 : Int) != 0 then
                      Q (.bool false) h_22
                    else
                      (bif (x33 : Int) != s4.1 then
                        Q (.bool false) h_22
                      else
                        again4 (IntKind.wrap .i64 (s4.1 + 1), IntKind.wrap .i64 (s4.2 + 1)) h_22)))
                else
                  ((IntKind.wrap .i64 (s4.1 + 1)) : Int) ≠ 0 ∧
                  ((IntKind.wrap .i64 ((IntKind.wrap .i64 (s4.1 - (Int.tmod (IntKind.wrap .i64 from_0) (IntKind.wrap .i64 (s4.1 + 1))))) + 1)) : Int) ≠ 0 ∧
                  CallsH Try.prog 51 [.pointer x28, .int .i64 (Int.tmod (IntKind.wrap .i64 from_0) (IntKind.wrap .i64 (s4.1 + 1))), .int .i64 (IntKind.wrap .i64 ((Int.tmod (IntKind.wrap .i64 from_0) (IntKind.wrap .i64 (s4.1 + 1))) + (Int.tmod (IntKind.wrap .i64 to0) (IntKind.wrap .i64 ((IntKind.wrap .i64 (s4.1 - (Int.tmod (IntKind.wrap .i64 from_0) (IntKind.wrap .i64 (s4.1 + 1))))) + 1)))))] h_20 fun r18 h_23 =>
                  ∃ (x35a : Option Addr), ∃ (x35l : Nat), ∃ (x35c : Nat), ∃ (x36 : Int), r18 = .tuple #[.slice x35a x35l x35c, .int .i64 x36] ∧
                  (bif (x36 : Int) != 0 then
                    Q (.bool false) h_23
                  else
                    (bif ((x35l : Int) : Int) != (IntKind.wrap .i64 ((IntKind.wrap .i64 ((Int.tmod (IntKind.wrap .i64 from_0) (IntKind.wrap .i64 (s4.1 + 1))) + (Int.tmod (IntKind.wrap .i64 to0) (IntKind.wrap .i64 ((IntKind.wrap .i64 (s4.1 - (Int.tmod (IntKind.wrap .i64 from_0) (IntKind.wrap .i64 (s4.1 + 1))))) + 1))))) - (Int.tmod (IntKind.wrap .i64 from_0) (IntKind.wrap .i64 (s4.1 + 1))))) then
                      Q (.bool false) h_23
                    else
                      LoopH (fun again5 (s5 : Sl × Sl × Int) h_24 =>
                        (bif decide ((s5.2.2 : Int) < (x35l : Int)) then
                          (bif (s0.2.2 : Int) == 0 then
                            IdxA x35a x35l s5.2.2 1 fun a17 =>
                            Ld h_24 a17 fun v16 => DSl v16 fun x37a x37l x37c =>
                            ∃ bs8 : ByteArray, BytesIn h_24 x37a x37l bs8 ∧
                            Al h_24 (.cells #[.string bs8] 9) fun b5 h_25 =>
                            RunH Try.prog (Builtin.append_ #[41, 41] 41 #[.slice s5.1.a s5.1.l s5.1.c, .slice (some (Addr.mk b5 0 none)) 1 1]) h_25 fun r20 h_26 =>
                            DSl r20 fun x38a x38l x38c =>
                            IdxA x35a x35l s5.2.2 1 fun a18 =>
                            Ld h_26 a18 fun v17 => DSl v17 fun x39a x39l x39c =>
                            ∃ bs9 : ByteArray, BytesIn h_26 x39a x39l bs9 ∧
                            IdxA recs0a recs0l (IntKind.wrap .i64 ((Int.tmod (IntKind.wrap .i64 from_0) (IntKind.wrap .i64 (s4.1 + 1))) + s5.2.2)) 1 fun a19 =>
                            Ld h_26 a19 fun v18 => DS v18 fun x40 =>
                            (bif !strEq bs9 x40 then
                              Q (.bool false) h_26
                            else
                              again5 (⟨x38a, x38l, x38c⟩, ⟨s5.2.1.a, s5.2.1.l, s5.2.1.c⟩, IntKind.wrap .i64 (s5.2.2 + 1)) h_26)
                          else
                            IdxA x35a x35l s5.2.2 1 fun a20 =>
                            Ld h_24 a20 fun v19 => DSl v19 fun x41a x41l x41c =>
                            ∃ bs10 : ByteArray, BytesIn h_24 x41a x41l bs10 ∧
                            Al h_24 (.cells #[.string bs10] 9) fun b6 h_27 =>
                            RunH Try.prog (Builtin.append_ #[41, 41] 41 #[.slice s5.2.1.a s5.2.1.l s5.2.1.c, .slice (some (Addr.mk b6 0 none)) 1 1]) h_27 fun r22 h_28 =>
                            DSl r22 fun y2a y2l y2c =>
                            IdxA x35a x35l s5.2.2 1 fun a21 =>
                            Ld h_28 a21 fun v20 => DSl v20 fun x42a x42l x42c =>
                            ∃ bs11 : ByteArray, BytesIn h_28 x42a x42l bs11 ∧
                            IdxA recs0a recs0l (IntKind.wrap .i64 ((Int.tmod (IntKind.wrap .i64 from_0) (IntKind.wrap .i64 (s4.1 + 1))) + s5.2.2)) 1 fun a22 =>
                            Ld h_28 a22 fun v21 => DS v21 fun x43 =>
                            (bif !strEq bs11 x43 then
                              Q (.bool false) h_28
                            else
                              again5 (⟨s5.1.a, s5.1.l, s5.1.c⟩, ⟨y2a, y2l, y2c⟩, IntKind.wrap .i64 (s5.2.2 + 1)) h_28))
                        else
                          again0 (⟨s5.1.a, s5.1.l, s5.1.c⟩, ⟨s5.2.1.a, s5.2.1.l, s5.2.1.c⟩, IntKind.wrap .i64 (s0.2.2 + 1)) h_24)) (⟨s0.1.a, s0.1.l, s0.1.c⟩, ⟨s0.2.1.a, s0.2.1.l, s0.2.1.c⟩, 0) h_23)))
              else
                ((IntKind.wrap .i64 (s4.1 + 1)) : Int) ≠ 0 ∧
                ((IntKind.wrap .i64 ((IntKind.wrap .i64 (s4.1 - (Int.tmod (IntKind.wrap .i64 from_0) (IntKind.wrap .i64 (s4.1 + 1))))) + 1)) : Int) ≠ 0 ∧
                CallsH Try.prog 51 [.pointer x28, .int .i64 (Int.tmod (IntKind.wrap .i64 from_0) (IntKind.wrap .i64 (s4.1 + 1))), .int .i64 (IntKind.wrap .i64 ((Int.tmod (IntKind.wrap .i64 from_0) (IntKind.wrap .i64 (s4.1 + 1))) + (Int.tmod (IntKind.wrap .i64 to0) (IntKind.wrap .i64 ((IntKind.wrap .i64 (s4.1 - (Int.tmod (IntKind.wrap .i64 from_0) (IntKind.wrap .i64 (s4.1 + 1))))) + 1)))))] h_20 fun r23 h_29 =>
                ∃ (x44a : Option Addr), ∃ (x44l : Nat), ∃ (x44c : Nat), ∃ (x45 : Int), r23 = .tuple #[.slice x44a x44l x44c, .int .i64 x45] ∧
                (bif (x45 : Int) != 0 then
                  Q (.bool false) h_29
                else
                  (bif ((x44l : Int) : Int) != (IntKind.wrap .i64 ((IntKind.wrap .i64 ((Int.tmod (IntKind.wrap .i64 from_0) (IntKind.wrap .i64 (s4.1 + 1))) + (Int.tmod (IntKind.wrap .i64 to0) (IntKind.wrap .i64 ((IntKind.wrap .i64 (s4.1 - (Int.tmod (IntKind.wrap .i64 from_0) (IntKind.wrap .i64 (s4.1 + 1))))) + 1))))) - (Int.tmod (IntKind.wrap .i64 from_0) (IntKind.wrap .i64 (s4.1 + 1))))) then
                    Q (.bool false) h_29
                  else
                    LoopH (fun again6 (s6 : Sl × Sl × Int) h_30 =>
                      (bif decide ((s6.2.2 : Int) < (x44l : Int)) then
                        (bif (s0.2.2 : Int) == 0 then
                          IdxA x44a x44l s6.2.2 1 fun a23 =>
                          Ld h_30 a23 fun v22 => DSl v22 fun x46a x46l x46c =>
                          ∃ bs12 : ByteArray, BytesIn h_30 x46a x46l bs12 ∧
                          Al h_30 (.cells #[.string bs12] 9) fun b7 h_31 =>
                          RunH Try.prog (Builtin.append_ #[41, 41] 41 #[.slice s6.1.a s6.1.l s6.1.c, .slice (some (Addr.mk b7 0 none)) 1 1]) h_31 fun r25 h_32 =>
                          DSl r25 fun x47a x47l x47c =>
                          IdxA x44a x44l s6.2.2 1 fun a24 =>
                          Ld h_32 a24 fun v23 => DSl v23 fun x48a x48l x48c =>
                          ∃ bs13 : ByteArray, BytesIn h_32 x48a x48l bs13 ∧
                          IdxA recs0a recs0l (IntKind.wrap .i64 ((Int.tmod (IntKind.wrap .i64 from_0) (IntKind.wrap .i64 (s4.1 + 1))) + s6.2.2)) 1 fun a25 =>
                          Ld h_32 a25 fun v24 => DS v24 fun x49 =>
                          (bif !strEq bs13 x49 then
                            Q (.bool false) h_32
                          else
                            again6 (⟨x47a, x47l, x47c⟩, ⟨s6.2.1.a, s6.2.1.l, s6.2.1.c⟩, IntKind.wrap .i64 (s6.2.2 + 1)) h_32)
                        else
                          IdxA x44a x44l s6.2.2 1 fun a26 =>
                          Ld h_30 a26 fun v25 => DSl v25 fun x50a x50l x50c =>
                          ∃ bs14 : ByteArray, BytesIn h_30 x50a x50l bs14 ∧
                          Al h_30 (.cells #[.string bs14] 9) fun b8 h_33 =>
                          RunH Try.prog (Builtin.append_ #[41, 41] 41 #[.slice s6.2.1.a s6.2.1.l s6.2.1.c, .slice (some (Addr.mk b8 0 none)) 1 1]) h_33 fun r27 h_34 =>
                          DSl r27 fun y3a y3l y3c =>
                          IdxA x44a x44l s6.2.2 1 fun a27 =>
                          Ld h_34 a27 fun v26 => DSl v26 fun x51a x51l x51c =>
                          ∃ bs15 : ByteArray, BytesIn h_34 x51a x51l bs15 ∧
                          IdxA recs0a recs0l (IntKind.wrap .i64 ((Int.tmod (IntKind.wrap .i64 from_0) (IntKind.wrap .i64 (s4.1 + 1))) + s6.2.2)) 1 fun a28 =>
                          Ld h_34 a28 fun v27 => DS v27 fun x52 =>
                          (bif !strEq bs15 x52 then
                            Q (.bool false) h_34
                          else
                            again6 (⟨s6.1.a, s6.1.l, s6.1.c⟩, ⟨y3a, y3l, y3c⟩, IntKind.wrap .i64 (s6.2.2 + 1)) h_34))
                      else
                        again0 (⟨s6.1.a, s6.1.l, s6.1.c⟩, ⟨s6.2.1.a, s6.2.1.l, s6.2.1.c⟩, IntKind.wrap .i64 (s0.2.2 + 1)) h_30)) (⟨s0.1.a, s0.1.l, s0.1.c⟩, ⟨s0.2.1.a, s0.2.1.l, s0.2.1.c⟩, 0) h_29)))) (0, 0) h_19))
      else
        Q (.bool (((s0.1.l : Int) : Int) == (s0.2.1.l : Int))) h_1)) (⟨none, 0, 0⟩, ⟨none, 0, 0⟩, 0) h_0)
theorem F12b_eq : (fun (recs0a : Option Addr) (recs0l : Nat) (recs0c : Nat) (a0 : Int) (b0 : Int) (from_0 : Int) (to0 : Int) (h : Heap) (Q : Value → Heap → Prop) => fnPT Try.prog Try.f12 (fun i => bif Nat.beq i 0 then annCons 11 (codSl) (annCons 12 (codSl) (annOne 13 (codI .i64))) else bif Nat.beq i 2 then annCons 19 (codI .i64) (annOne 20 (codI .i64)) else bif Nat.beq i 4 then annCons 11 (codSl) (annCons 12 (codSl) (annOne 26 (codI .i64))) else annNil) (fun _ => []) (fun _ => none) [.slice recs0a recs0l recs0c, .int .u8 a0, .int .u8 b0, .int .u8 from_0, .int .u8 to0] h Q) = F12b := by kernel_rfl
theorem F12b_ok {recs0a : Option Addr} {recs0l : Nat} {recs0c : Nat} {a0 : Int} {b0 : Int} {from_0 : Int} {to0 : Int} {h : Heap} {Q : Value → Heap → Prop} (H : F12b recs0a recs0l recs0c a0 b0 from_0 to0 h Q) : CallsH Try.prog 12 [.slice recs0a recs0l recs0c, .int .u8 a0, .int .u8 b0, .int .u8 from_0, .int .u8 to0] h Q :=
  callsH_of (ann := fun i => bif Nat.beq i 0 then annCons 11 (codSl) (annCons 12 (codSl) (annOne 13 (codI .i64))) else bif Nat.beq i 2 then annCons 19 (codI .i64) (annOne 20 (codI .i64)) else bif Nat.beq i 4 then annCons 11 (codSl) (annCons 12 (codSl) (annOne 26 (codI .i64))) else annNil) (tys := fun _ => []) (pl := fun _ => none) Try.func12 (by kernel_rfl) (by have e := F12b_eq; exact (congrFun (congrFun (congrFun (congrFun (congrFun (congrFun (congrFun (congrFun (congrFun (e) recs0a) recs0l) recs0c) a0) b0) from_0) to0) h) Q).symm ▸ H)

/-- headgate/headgatelaw10.SegmentNil -/
def F13b (size0 : Int) (from_0 : Int) (to0 : Int) (b0 : ByteArray) (h : Heap) (Q : Value → Heap → Prop) : Prop :=
  CallsH Try.prog 48 [] h fun r0 h_0 =>
  DB r0 fun x0 =>
  (bif !x0 then
    Q (.bool false) h_0
  else
    (bif decide ((((b0 : ByteArray).size : Int) : Int) > 4000) then
      Q (.bool true) h_0
    else
      RunH Try.prog (Go.convert 9 31 (.string b0)) h_0 fun r1 h_1 =>
      DSl r1 fun x1a x1l x1c =>
      CallsH Try.prog 50 [.pointer none, .slice x1a x1l x1c] h_1 fun r2 h_2 =>
      ∃ (x2 : Int), ∃ (x3 : Int), r2 = .tuple #[.int .i64 x2, .int .i64 x3] ∧
      CallsH Try.prog 51 [.pointer none, .int .i64 from_0, .int .i64 to0] h_2 fun r3 h_3 =>
      ∃ (x4a : Option Addr), ∃ (x4l : Nat), ∃ (x4c : Nat), ∃ (x5 : Int), r3 = .tuple #[.slice x4a x4l x4c, .int .i64 x5] ∧
      CallsH Try.prog 49 [.pointer none, .string ⟨#[112]⟩, .int .i64 size0] h_3 fun r4 h_4 =>
      ∃ (x6 : Option Addr), ∃ (x7 : Int), r4 = .tuple #[.pointer x6, .int .i64 x7] ∧
      (bif decide ((size0 : Int) < 1) then
        (bif (x2 : Int) == 0 then
          (bif (x3 : Int) == 1 then
            (bif ((x4l : Int) : Int) == 0 then
              (bif (x5 : Int) == 1 then
                CallsH Try.prog 52 [.pointer none] h_4 fun r5 h_5 =>
                DI .i64 r5 fun x8 =>
                (bif (x8 : Int) == 1 then
                  CallsH Try.prog 53 [.pointer none] h_5 fun r6 h_6 =>
                  DI .i64 r6 fun x9 =>
                  (bif (x9 : Int) == 0 then
                    CallsH Try.prog 54 [.pointer none] h_6 fun r7 h_7 =>
                    DI .i64 r7 fun x10 =>
                    (bif (x10 : Int) == 0 then
                      CallsH Try.prog 55 [.pointer none] h_7 fun r8 h_8 =>
                      DI .i64 r8 fun x11 =>
                      (bif (x11 : Int) == 0 then
                        (bif (x6).isNone then
                          Q (.bool ((x7 : Int) == 2)) h_8
                        else
                          Q (.bool false) h_8)
                      else
                        Q (.bool false) h_8)
                    else
                      Q (.bool false) h_7)
                  else
                    Q (.bool false) h_6)
                else
                  Q (.bool false) h_5)
              else
                Q (.bool false) h_4)
            else
              Q (.bool false) h_4)
          else
            Q (.bool false) h_4)
        else
          Q (.bool false) h_4)
      else
        (bif decide ((size0 : Int) > 16777216) then
          (bif (x2 : Int) == 0 then
            (bif (x3 : Int) == 1 then
              (bif ((x4l : Int) : Int) == 0 then
                (bif (x5 : Int) == 1 then
                  CallsH Try.prog 52 [.pointer none] h_4 fun r9 h_9 =>
                  DI .i64 r9 fun x12 =>
                  (bif (x12 : Int) == 1 then
                    CallsH Try.prog 53 [.pointer none] h_9 fun r10 h_10 =>
                    DI .i64 r10 fun x13 =>
                    (bif (x13 : Int) == 0 then
                      CallsH Try.prog 54 [.pointer none] h_10 fun r11 h_11 =>
                      DI .i64 r11 fun x14 =>
                      (bif (x14 : Int) == 0 then
                        CallsH Try.prog 55 [.pointer none] h_11 fun r12 h_12 =>
                        DI .i64 r12 fun x15 =>
                        (bif (x15 : Int) == 0 then
                          (bif (x6).isNone then
                            Q (.bool ((x7 : Int) == 2)) h_12
                          else
                            Q (.bool false) h_12)
                        else
                          Q (.bool false) h_12)
                      else
                        Q (.bool false) h_11)
                    else
                      Q (.bool false) h_10)
                  else
                    Q (.bool false) h_9)
                else
                  Q (.bool false) h_4)
              else
                Q (.bool false) h_4)
            else
              Q (.bool false) h_4)
          else
            Q (.bool false) h_4)
        else
          (bif (x2 : Int) == 0 then
            (bif (x3 : Int) == 1 then
              (bif ((x4l : Int) : Int) == 0 then
                (bif (x5 : Int) == 1 then
                  CallsH Try.prog 52 [.pointer none] h_4 fun r13 h_13 =>
                  DI .i64 r13 fun x16 =>
                  (bif (x16 : Int) == 1 then
                    CallsH Try.prog 53 [.pointer none] h_13 fun r14 h_14 =>
                    DI .i64 r14 fun x17 =>
                    (bif (x17 : Int) == 0 then
                      CallsH Try.prog 54 [.pointer none] h_14 fun r15 h_15 =>
                      DI .i64 r15 fun x18 =>
                      (bif (x18 : Int) == 0 then
                        CallsH Try.prog 55 [.pointer none] h_15 fun r16 h_16 =>
                        DI .i64 r16 fun x19 =>
                        (bif (x19 : Int) == 0 then
                          (bif (x6).isNone then
                            Q (.bool ((x7 : Int) == 1)) h_16
                          else
                            Q (.bool false) h_16)
                        else
                          Q (.bool false) h_16)
                      else
                        Q (.bool false) h_15)
                    else
                      Q (.bool false) h_14)
                  else
                    Q (.bool false) h_13)
                else
                  Q (.bool false) h_4)
              else
                Q (.bool false) h_4)
            else
              Q (.bool false) h_4)
          else
            Q (.bool false) h_4)))))
theorem F13b_eq : (fun (size0 : Int) (from_0 : Int) (to0 : Int) (b0 : ByteArray) (h : Heap) (Q : Value → Heap → Prop) => fnPT Try.prog Try.f13 (fun _ => annNil) (fun _ => []) (fun _ => none) [.int .i64 size0, .int .i64 from_0, .int .i64 to0, .string b0] h Q) = F13b := by kernel_rfl
theorem F13b_ok {size0 : Int} {from_0 : Int} {to0 : Int} {b0 : ByteArray} {h : Heap} {Q : Value → Heap → Prop} (H : F13b size0 from_0 to0 b0 h Q) : CallsH Try.prog 13 [.int .i64 size0, .int .i64 from_0, .int .i64 to0, .string b0] h Q :=
  callsH_of (ann := fun _ => annNil) (tys := fun _ => []) (pl := fun _ => none) Try.func13 (by kernel_rfl) (by have e := F13b_eq; exact (congrFun (congrFun (congrFun (congrFun (congrFun (congrFun (e) size0) from_0) to0) b0) h) Q).symm ▸ H)

/-- headgate/headgatelaw10.alive -/
def F48b (h : Heap) (Q : Value → Heap → Prop) : Prop :=
  CallsH Try.prog 15 [.int .i64 1000] h fun r0 h_0 =>
  ∃ (x0 : Option Addr), ∃ (x1 : Int), r0 = .tuple #[.pointer x0, .int .i64 x1] ∧
  (bif (x1 : Int) != 0 then
    Q (.bool false) h_0
  else
    (bif (x0).isNone then
      Q (.bool false) h_0
    else
      CallsH Try.prog 49 [.pointer x0, .string ⟨#[112]⟩, .int .i64 10] h_0 fun r1 h_1 =>
      ∃ (x2 : Option Addr), ∃ (x3 : Int), r1 = .tuple #[.pointer x2, .int .i64 x3] ∧
      (bif (x3 : Int) != 0 then
        Q (.bool false) h_1
      else
        (bif (x2).isNone then
          Q (.bool false) h_1
        else
          Al h_1 (.cells #[.int .u8 97, .int .u8 98] 5) fun b0 h_2 =>
          RunH Try.prog (Go.convert 31 31 (.slice (some (Addr.mk b0 0 none)) 2 2)) h_2 fun r3 h_3 =>
          DSl r3 fun x4a x4l x4c =>
          CallsH Try.prog 50 [.pointer x2, .slice x4a x4l x4c] h_3 fun r4 h_4 =>
          ∃ (x5 : Int), ∃ (x6 : Int), r4 = .tuple #[.int .i64 x5, .int .i64 x6] ∧
          Al h_4 (.cells #[.int .u8 99, .int .u8 100] 5) fun b1 h_5 =>
          RunH Try.prog (Go.convert 31 31 (.slice (some (Addr.mk b1 0 none)) 2 2)) h_5 fun r6 h_6 =>
          DSl r6 fun x7a x7l x7c =>
          CallsH Try.prog 50 [.pointer x2, .slice x7a x7l x7c] h_6 fun r7 h_7 =>
          ∃ (x8 : Int), ∃ (x9 : Int), r7 = .tuple #[.int .i64 x8, .int .i64 x9] ∧
          CallsH Try.prog 51 [.pointer x2, .int .i64 1, .int .i64 2] h_7 fun r8 h_8 =>
          ∃ (x10a : Option Addr), ∃ (x10l : Nat), ∃ (x10c : Nat), ∃ (x11 : Int), r8 = .tuple #[.slice x10a x10l x10c, .int .i64 x11] ∧
          (bif (x6 : Int) == 0 then
            (bif (x9 : Int) == 0 then
              (bif (x5 : Int) == 0 then
                (bif (x8 : Int) == 1 then
                  CallsH Try.prog 55 [.pointer x2] h_8 fun r9 h_9 =>
                  DI .i64 r9 fun x12 =>
                  (bif (x12 : Int) == 2 then
                    CallsH Try.prog 54 [.pointer x2] h_9 fun r10 h_10 =>
                    DI .i64 r10 fun x13 =>
                    (bif (x13 : Int) == 1 then
                      (bif (x11 : Int) == 0 then
                        (bif ((x10l : Int) : Int) == 1 then
                          IdxA x10a x10l 0 1 fun a0 =>
                          Ld h_10 a0 fun v0 => DSl v0 fun x14a x14l x14c =>
                          ∃ bs0 : ByteArray, BytesIn h_10 x14a x14l bs0 ∧
                          Q (.bool (strEq bs0 ⟨#[99, 100]⟩)) h_10
                        else
                          Q (.bool false) h_10)
                      else
                        Q (.bool false) h_10)
                    else
                      Q (.bool false) h_10)
                  else
                    Q (.bool false) h_9)
                else
                  Q (.bool false) h_8)
              else
                Q (.bool false) h_8)
            else
              Q (.bool false) h_8)
          else
            Q (.bool false) h_8)))))
theorem F48b_eq : (fun (h : Heap) (Q : Value → Heap → Prop) => fnPT Try.prog Try.f48 (fun _ => annNil) (fun _ => []) (fun _ => none) [] h Q) = F48b := by kernel_rfl
theorem F48b_ok {h : Heap} {Q : Value → Heap → Prop} (H : F48b h Q) : CallsH Try.prog 48 [] h Q :=
  callsH_of (ann := fun _ => annNil) (tys := fun _ => []) (pl := fun _ => none) Try.func48 (by kernel_rfl) (by have e := F48b_eq; exact (congrFun (congrFun (e) h) Q).symm ▸ H)

/-- headgate/segment.Open -/
def F49b (f0 : Option Addr) (dir0 : ByteArray) (size0 : Int) (h : Heap) (Q : Value → Heap → Prop) : Prop :=
  (bif decide ((size0 : Int) < 1) then
    Q (.tuple #[.pointer none, .int .i64 2]) h
  else
    (bif decide ((size0 : Int) > 16777216) then
      Q (.tuple #[.pointer none, .int .i64 2]) h
    else
      CallsH Try.prog 42 [.pointer f0, .string dir0] h fun r0 h_0 =>
      ∃ (x0a : Option Addr), ∃ (x0l : Nat), ∃ (x0c : Nat), ∃ (x1 : Int), r0 = .tuple #[.slice x0a x0l x0c, .int .i64 x1] ∧
      (bif (x1 : Int) != 0 then
        Q (.tuple #[.pointer none, .int .i64 x1]) h_0
      else
        Al h_0 (.cells #[.pointer f0, .string dir0, .int .i64 size0, .slice none 0 0, .int .i64 0, .int .i64 0] 134) fun b0 h_1 =>
        CallsH Try.prog 100 [.slice x0a x0l x0c] h_1 fun r2 h_2 =>
        DSl r2 fun x2a x2l x2c =>
        CallsH Try.prog 99 [.pointer (some (Addr.mk b0 0 none)), .slice x2a x2l x2c] h_2 fun r3 h_3 =>
        DI .i64 r3 fun e0 =>
        (bif (e0 : Int) != 0 then
          Q (.tuple #[.pointer none, .int .i64 e0]) h_3
        else
          CallsH Try.prog 52 [.pointer (some (Addr.mk b0 0 none))] h_3 fun r4 h_4 =>
          DI .i64 r4 fun e1 =>
          (bif (e1 : Int) != 0 then
            Q (.tuple #[.pointer none, .int .i64 e1]) h_4
          else
            Q (.tuple #[.pointer (some (Addr.mk b0 0 none)), .int .i64 0]) h_4)))))
theorem F49b_eq : (fun (f0 : Option Addr) (dir0 : ByteArray) (size0 : Int) (h : Heap) (Q : Value → Heap → Prop) => fnPT Try.prog Try.f49 (fun _ => annNil) (fun _ => []) (fun _ => none) [.pointer f0, .string dir0, .int .i64 size0] h Q) = F49b := by kernel_rfl
theorem F49b_ok {f0 : Option Addr} {dir0 : ByteArray} {size0 : Int} {h : Heap} {Q : Value → Heap → Prop} (H : F49b f0 dir0 size0 h Q) : CallsH Try.prog 49 [.pointer f0, .string dir0, .int .i64 size0] h Q :=
  callsH_of (ann := fun _ => annNil) (tys := fun _ => []) (pl := fun _ => none) Try.func49 (by kernel_rfl) (by have e := F49b_eq; exact (congrFun (congrFun (congrFun (congrFun (congrFun (e) f0) dir0) size0) h) Q).symm ▸ H)

/-- (*headgate/segment.Log).Append -/
def F50b (l_0 : Option Addr) (b0a : Option Addr) (b0l : Nat) (b0c : Nat) (h : Heap) (Q : Value → Heap → Prop) : Prop :=
  (bif (l_0).isNone then
    Q (.tuple #[.int .i64 0, .int .i64 1]) h
  else
    (bif decide (((b0l : Int) : Int) > 1024) then
      Q (.tuple #[.int .i64 0, .int .i64 100]) h
    else
      CallsH Try.prog 101 [.pointer l_0] h fun r0 h_0 =>
      DP r0 fun p0 =>
      (bif (p0).isNone then
        CallsH Try.prog 102 [.pointer l_0] h_0 fun r1 h_1 =>
        DI .i64 r1 fun e0 =>
        (bif (e0 : Int) != 0 then
          Q (.tuple #[.int .i64 0, .int .i64 e0]) h_1
        else
          CallsH Try.prog 90 [.slice b0a b0l b0c] h_1 fun r2 h_2 =>
          ∃ (x0a : Option Addr), ∃ (x0l : Nat), ∃ (x0c : Nat), ∃ (x1 : Int), r2 = .tuple #[.slice x0a x0l x0c, .int .i64 x1] ∧
          (bif (x1 : Int) != 0 then
            Q (.tuple #[.int .i64 0, .int .i64 x1]) h_2
          else
            CallsH Try.prog 101 [.pointer l_0] h_2 fun r3 h_3 =>
            DP r3 fun p1 =>
            NN' l_0 fun a0 =>
            Ld h_3 (a0.add 0) fun v0 => DP v0 fun x2 =>
            NN' l_0 fun a1 =>
            Ld h_3 (a1.add 1) fun v1 => DS v1 fun x3 =>
            NN' p1 fun a2 =>
            Ld h_3 (a2.add 0) fun v2 => DI .i64 v2 fun x4 =>
            CallsH Try.prog 103 [.int .i64 x4] h_3 fun r4 h_4 =>
            DS r4 fun x5 =>
            (SameV (some (.pointer l_0)) (.pointer l_0)) ∧
            (NN' l_0 fun a3 =>
            SameV (some (.pointer (some a0))) (.pointer (some a3))) ∧
            (SameV (some (.pointer (some (a0.add 0)))) (.pointer (some (a0.add 0)))) ∧
            (Ld h_4 (a0.add 0) fun v3 => DP v3 fun x6 =>
            SameV (some (.pointer x2)) (.pointer x6)) ∧
            (SameV (some (.pointer l_0)) (.pointer l_0)) ∧
            (NN' l_0 fun a4 =>
            SameV (some (.pointer (some a1))) (.pointer (some a4))) ∧
            (SameV (some (.pointer (some (a1.add 1)))) (.pointer (some (a1.add 1)))) ∧
            (Ld h_4 (a1.add 1) fun v4 => DS v4 fun x7 =>
            SameV (some (.string x3)) (.string x7)) ∧
            (SameV (some (.slice x0a x0l x0c)) (.slice x0a x0l x0c)) ∧
            CallsH Try.prog 18 [.pointer x2, .string x3, .string x5, .slice x0a x0l x0c] h_4 fun r5 h_5 =>
            DI .i64 r5 fun e1 =>
            (bif (e1 : Int) != 0 then
              Q (.tuple #[.int .i64 0, .int .i64 e1]) h_5
            else
              NN' p1 fun a5 =>
              Ld h_5 (a5.add 1) fun v5 => DI .i64 v5 fun x8 =>
              NN' p1 fun a6 =>
              StC h_5 ((a6.add 1).add 0) (.int .i64 (IntKind.wrap .i64 (x8 + 1))) fun h_7 =>
              NN' p1 fun a7 =>
              Ld h_7 (a7.add 2) fun v6 => DI .i64 v6 fun x9 =>
              NN' p1 fun a8 =>
              StC h_7 ((a8.add 2).add 0) (.int .i64 (IntKind.wrap .i64 (x9 + (x0l : Int)))) fun h_9 =>
              NN' l_0 fun a9 =>
              Ld h_9 (a9.add 4) fun v7 => DI .i64 v7 fun x10 =>
              NN' l_0 fun a10 =>
              StC h_9 ((a10.add 4).add 0) (.int .i64 (IntKind.wrap .i64 (x10 + 1))) fun h_11 =>
              NN' l_0 fun a11 =>
              Ld h_11 (a11.add 4) fun v8 => DI .i64 v8 fun x11 =>
              Q (.tuple #[.int .i64 (IntKind.wrap .i64 (x11 - 1)), .int .i64 0]) h_11)))
      else
        NN' p0 fun a12 =>
        Ld h_0 (a12.add 2) fun v9 => DI .i64 v9 fun x12 =>
        NN' l_0 fun a13 =>
        Ld h_0 (a13.add 2) fun v10 => DI .i64 v10 fun x13 =>
        (bif decide ((x12 : Int) ≥ x13) then
          CallsH Try.prog 102 [.pointer l_0] h_0 fun r9 h_12 =>
          DI .i64 r9 fun e2 =>
          (bif (e2 : Int) != 0 then
            Q (.tuple #[.int .i64 0, .int .i64 e2]) h_12
          else
            CallsH Try.prog 90 [.slice b0a b0l b0c] h_12 fun r10 h_13 =>
            ∃ (x14a : Option Addr), ∃ (x14l : Nat), ∃ (x14c : Nat), ∃ (x15 : Int), r10 = .tuple #[.slice x14a x14l x14c, .int .i64 x15] ∧
            (bif (x15 : Int) != 0 then
              Q (.tuple #[.int .i64 0, .int .i64 x15]) h_13
            else
              CallsH Try.prog 101 [.pointer l_0] h_13 fun r11 h_14 =>
              DP r11 fun p2 =>
              NN' l_0 fun a14 =>
              Ld h_14 (a14.add 0) fun v11 => DP v11 fun x16 =>
              NN' l_0 fun a15 =>
              Ld h_14 (a15.add 1) fun v12 => DS v12 fun x17 =>
              NN' p2 fun a16 =>
              Ld h_14 (a16.add 0) fun v13 => DI .i64 v13 fun x18 =>
              CallsH Try.prog 103 [.int .i64 x18] h_14 fun r12 h_15 =>
              DS r12 fun x19 =>
              (SameV (some (.pointer l_0)) (.pointer l_0)) ∧
              (NN' l_0 fun a17 =>
              SameV (some (.pointer (some a14))) (.pointer (some a17))) ∧
              (SameV (some (.pointer (some (a14.add 0)))) (.pointer (some (a14.add 0)))) ∧
              (Ld h_15 (a14.add 0) fun v14 => DP v14 fun x20 =>
              SameV (some (.pointer x16)) (.pointer x20)) ∧
              (SameV (some (.pointer l_0)) (.pointer l_0)) ∧
              (NN' l_0 fun a18 =>
              SameV (some (.pointer (some a15))) (.pointer (some a18))) ∧
              (SameV (some (.pointer (some (a15.add 1)))) (.pointer (some (a15.add 1)))) ∧
              (Ld h_15 (a15.add 1) fun v15 => DS v15 fun x21 =>
              SameV (some (.string x17)) (.string x21)) ∧
              (SameV (some (.slice x14a x14l x14c)) (.slice x14a x14l x14c)) ∧
              CallsH Try.prog 18 [.pointer x16, .string x17, .string x19, .slice x14a x14l x14c] h_15 fun r13 h_16 =>
              DI .i64 r13 fun e3 =>
              (bif (e3 : Int) != 0 then
                Q (.tuple #[.int .i64 0, .int .i64 e3]) h_16
              else
                NN' p2 fun a19 =>
                Ld h_16 (a19.add 1) fun v16 => DI .i64 v16 fun x22 =>
                NN' p2 fun a20 =>
                StC h_16 ((a20.add 1).add 0) (.int .i64 (IntKind.wrap .i64 (x22 + 1))) fun h_18 =>
                NN' p2 fun a21 =>
                Ld h_18 (a21.add 2) fun v17 => DI .i64 v17 fun x23 =>
                NN' p2 fun a22 =>
                StC h_18 ((a22.add 2).add 0) (.int .i64 (IntKind.wrap .i64 (x23 + (x14l : Int)))) fun h_20 =>
                NN' l_0 fun a23 =>
                Ld h_20 (a23.add 4) fun v18 => DI .i64 v18 fun x24 =>
                NN' l_0 fun a24 =>
                StC h_20 ((a24.add 4).add 0) (.int .i64 (IntKind.wrap .i64 (x24 + 1))) fun h_22 =>
                NN' l_0 fun a25 =>
                Ld h_22 (a25.add 4) fun v19 => DI .i64 v19 fun x25 =>
                Q (.tuple #[.int .i64 (IntKind.wrap .i64 (x25 - 1)), .int .i64 0]) h_22)))
        else
          CallsH Try.prog 90 [.slice b0a b0l b0c] h_0 fun r17 h_23 =>
          ∃ (x26a : Option Addr), ∃ (x26l : Nat), ∃ (x26c : Nat), ∃ (x27 : Int), r17 = .tuple #[.slice x26a x26l x26c, .int .i64 x27] ∧
          (bif (x27 : Int) != 0 then
            Q (.tuple #[.int .i64 0, .int .i64 x27]) h_23
          else
            CallsH Try.prog 101 [.pointer l_0] h_23 fun r18 h_24 =>
            DP r18 fun p3 =>
            NN' l_0 fun a26 =>
            Ld h_24 (a26.add 0) fun v20 => DP v20 fun x28 =>
            NN' l_0 fun a27 =>
            Ld h_24 (a27.add 1) fun v21 => DS v21 fun x29 =>
            NN' p3 fun a28 =>
            Ld h_24 (a28.add 0) fun v22 => DI .i64 v22 fun x30 =>
            CallsH Try.prog 103 [.int .i64 x30] h_24 fun r19 h_25 =>
            DS r19 fun x31 =>
            (SameV (some (.pointer l_0)) (.pointer l_0)) ∧
            (NN' l_0 fun a29 =>
            SameV (some (.pointer (some a26))) (.pointer (some a29))) ∧
            (SameV (some (.pointer (some (a26.add 0)))) (.pointer (some (a26.add 0)))) ∧
            (Ld h_25 (a26.add 0) fun v23 => DP v23 fun x32 =>
            SameV (some (.pointer x28)) (.pointer x32)) ∧
            (SameV (some (.pointer l_0)) (.pointer l_0)) ∧
            (NN' l_0 fun a30 =>
            SameV (some (.pointer (some a27))) (.pointer (some a30))) ∧
            (SameV (some (.pointer (some (a27.add 1)))) (.pointer (some (a27.add 1)))) ∧
            (Ld h_25 (a27.add 1) fun v24 => DS v24 fun x33 =>
            SameV (some (.string x29)) (.string x33)) ∧
            (SameV (some (.slice x26a x26l x26c)) (.slice x26a x26l x26c)) ∧
            CallsH Try.prog 18 [.pointer x28, .string x29, .string x31, .slice x26a x26l x26c] h_25 fun r20 h_26 =>
            DI .i64 r20 fun e4 =>
            (bif (e4 : Int) != 0 then
              Q (.tuple #[.int .i64 0, .int .i64 e4]) h_26
            else
              NN' p3 fun a31 =>
              Ld h_26 (a31.add 1) fun v25 => DI .i64 v25 fun x34 =>
              NN' p3 fun a32 =>
              StC h_26 ((a32.add 1).add 0) (.int .i64 (IntKind.wrap .i64 (x34 + 1))) fun h_28 =>
              NN' p3 fun a33 =>
              Ld h_28 (a33.add 2) fun v26 => DI .i64 v26 fun x35 =>
              NN' p3 fun a34 =>
              StC h_28 ((a34.add 2).add 0) (.int .i64 (IntKind.wrap .i64 (x35 + (x26l : Int)))) fun h_30 =>
              NN' l_0 fun a35 =>
              Ld h_30 (a35.add 4) fun v27 => DI .i64 v27 fun x36 =>
              NN' l_0 fun a36 =>
              StC h_30 ((a36.add 4).add 0) (.int .i64 (IntKind.wrap .i64 (x36 + 1))) fun h_32 =>
              NN' l_0 fun a37 =>
              Ld h_32 (a37.add 4) fun v28 => DI .i64 v28 fun x37 =>
              Q (.tuple #[.int .i64 (IntKind.wrap .i64 (x37 - 1)), .int .i64 0]) h_32))))))
theorem F50b_eq : (fun (l_0 : Option Addr) (b0a : Option Addr) (b0l : Nat) (b0c : Nat) (h : Heap) (Q : Value → Heap → Prop) => fnPT Try.prog Try.f50 (fun _ => annNil) (fun _ => []) (fun i => bif Nat.beq i 14 then some ⟨[0, 1, 3, 7, 0, 16, 48, 112, 0, 256, 768, 1792, 3840, 0, 16383, 32767], 20480⟩ else none) [.pointer l_0, .slice b0a b0l b0c] h Q) = F50b := by kernel_rfl
theorem F50b_ok {l_0 : Option Addr} {b0a : Option Addr} {b0l : Nat} {b0c : Nat} {h : Heap} {Q : Value → Heap → Prop} (H : F50b l_0 b0a b0l b0c h Q) : CallsH Try.prog 50 [.pointer l_0, .slice b0a b0l b0c] h Q :=
  callsH_of (ann := fun _ => annNil) (tys := fun _ => []) (pl := fun i => bif Nat.beq i 14 then some ⟨[0, 1, 3, 7, 0, 16, 48, 112, 0, 256, 768, 1792, 3840, 0, 16383, 32767], 20480⟩ else none) Try.func50 (by kernel_rfl) (by have e := F50b_eq; exact (congrFun (congrFun (congrFun (congrFun (congrFun (congrFun (e) l_0) b0a) b0l) b0c) h) Q).symm ▸ H)

/-- (*headgate/segment.Log).Read -/
def F51b (l_0 : Option Addr) (from_0 : Int) (to0 : Int) (h : Heap) (Q : Value → Heap → Prop) : Prop :=
  Al h (.cells #[.pointer l_0] 69) fun b0 h_0 =>
  Al h_0 (.cells #[.int .i64 from_0] 2) fun b1 h_1 =>
  Ld h_1 (Addr.mk b0 0 none) fun v0 => DP v0 fun x0 =>
  (bif (x0).isNone then
    Q (.tuple #[.slice none 0 0, .int .i64 1]) h_1
  else
    Ld h_1 (Addr.mk b1 0 none) fun v1 => DI .i64 v1 fun x1 =>
    (bif decide ((x1 : Int) < 0) then
      Q (.tuple #[.slice none 0 0, .int .i64 101]) h_1
    else
      Ld h_1 (Addr.mk b1 0 none) fun v2 => DI .i64 v2 fun x2 =>
      (bif decide ((to0 : Int) < x2) then
        Q (.tuple #[.slice none 0 0, .int .i64 101]) h_1
      else
        Ld h_1 (Addr.mk b0 0 none) fun v3 => DP v3 fun x3 =>
        NN' x3 fun a0 =>
        Ld h_1 (a0.add 4) fun v4 => DI .i64 v4 fun x4 =>
        (bif decide ((to0 : Int) > x4) then
          Q (.tuple #[.slice none 0 0, .int .i64 101]) h_1
        else
          Ld h_1 (Addr.mk b0 0 none) fun v5 => DP v5 fun x5 =>
          NN' x5 fun a1 =>
          Ld h_1 (a1.add 3) fun v6 => DSl v6 fun x6a x6l x6c =>
          CallsH Try.prog 104 [.int .i64 (x6l : Int), .func (.func 105) #[] #[.pointer (some (Addr.mk b0 0 none)), .pointer (some (Addr.mk b1 0 none))]] h_1 fun r2 h_2 =>
          DI .i64 r2 fun k0 =>
          Ld h_2 (Addr.mk b0 0 none) fun v7 => DP v7 fun x7 =>
          NN' x7 fun a2 =>
          Ld h_2 (a2.add 3) fun v8 => DSl v8 fun x8a x8l x8c =>
          SlV x8a x8c 3 k0 (x8l : Int) (x8c : Int) fun s0a s0l s0c =>
          LoopH (fun again0 (s1 : Sl × Int) h_3 =>
            (bif decide ((s1.2 : Int) < (s0l : Int)) then
              IdxA s0a s0l s1.2 3 fun a3 =>
              Ld h_3 (a3.add 0) fun c0 =>
              Ld h_3 (a3.add 1) fun c1 =>
              Ld h_3 (a3.add 2) fun c2 =>
              ∃ (x9 : Int), ∃ (x10 : Int), ∃ (x11 : Int), (Value.agg #[c0, c1, c2]) = .agg #[.int .i64 x9, .int .i64 x10, .int .i64 x11] ∧
              Al h_3 (.cells #[.int .i64 0, .int .i64 0, .int .i64 0] 141) fun b2 h_4 =>
              StC h_4 ((Addr.mk b2 0 none).add 0) (.int .i64 x9) fun h_6 =>
              StC h_6 ((Addr.mk b2 0 none).add 1) (.int .i64 x10) fun h_7 =>
              StC h_7 ((Addr.mk b2 0 none).add 2) (.int .i64 x11) fun h_8 =>
              Ld h_8 ((Addr.mk b2 0 none).add 0) fun v9 => DI .i64 v9 fun x12 =>
              (bif decide ((x12 : Int) ≥ to0) then
                Q (.tuple #[.slice s1.1.a s1.1.l s1.1.c, .int .i64 0]) h_8
              else
                Ld h_8 (Addr.mk b1 0 none) fun v10 => DI .i64 v10 fun x13 =>
                (bif (x13 : Int) == to0 then
                  Q (.tuple #[.slice s1.1.a s1.1.l s1.1.c, .int .i64 0]) h_8
                else
                  Ld h_8 ((Addr.mk b2 0 none).add 1) fun v11 => DI .i64 v11 fun x14 =>
                  (bif (x14 : Int) == 0 then
                    again0 (⟨s1.1.a, s1.1.l, s1.1.c⟩, IntKind.wrap .i64 (s1.2 + 1)) h_8
                  else
                    Ld h_8 (Addr.mk b0 0 none) fun v12 => DP v12 fun x15 =>
                    NN' x15 fun a4 =>
                    Ld h_8 (a4.add 0) fun v13 => DP v13 fun x16 =>
                    Ld h_8 (Addr.mk b0 0 none) fun v14 => DP v14 fun x17 =>
                    NN' x17 fun a5 =>
                    Ld h_8 (a5.add 1) fun v15 => DS v15 fun x18 =>
                    Ld h_8 ((Addr.mk b2 0 none).add 0) fun v16 => DI .i64 v16 fun x19 =>
                    CallsH Try.prog 103 [.int .i64 x19] h_8 fun r5 h_9 =>
                    DS r5 fun x20 =>
                    (Ld h_9 (Addr.mk b0 0 none) fun v17 => DP v17 fun x21 =>
                    SameV (some (.pointer x15)) (.pointer x21)) ∧
                    (NN' x15 fun a6 =>
                    SameV (some (.pointer (some a4))) (.pointer (some a6))) ∧
                    (SameV (some (.pointer (some (a4.add 0)))) (.pointer (some (a4.add 0)))) ∧
                    (Ld h_9 (a4.add 0) fun v18 => DP v18 fun x22 =>
                    SameV (some (.pointer x16)) (.pointer x22)) ∧
                    (Ld h_9 (Addr.mk b0 0 none) fun v19 => DP v19 fun x23 =>
                    SameV (some (.pointer x17)) (.pointer x23)) ∧
                    (NN' x17 fun a7 =>
                    SameV (some (.pointer (some a5))) (.pointer (some a7))) ∧
                    (SameV (some (.pointer (some (a5.add 1)))) (.pointer (some (a5.add 1)))) ∧
                    (Ld h_9 (a5.add 1) fun v20 => DS v20 fun x24 =>
                    SameV (some (.string x18)) (.string x24)) ∧
                    CallsH Try.prog 25 [.pointer x16, .string x18, .string x20] h_9 fun r6 h_10 =>
                    ∃ (x25a : Option Addr), ∃ (x25l : Nat), ∃ (x25c : Nat), ∃ (x26 : Int), r6 = .tuple #[.slice x25a x25l x25c, .int .i64 x26] ∧
                    (bif (x26 : Int) != 0 then
                      Q (.tuple #[.slice none 0 0, .int .i64 x26]) h_10
                    else
                      CallsH Try.prog 106 [.slice x25a x25l x25c] h_10 fun r7 h_11 =>
                      ∃ (x27a : Option Addr), ∃ (x27l : Nat), ∃ (x27c : Nat), ∃ (x28 : Int), r7 = .tuple #[.slice x27a x27l x27c, .int .i64 x28] ∧
                      Ld h_11 ((Addr.mk b2 0 none).add 1) fun v21 => DI .i64 v21 fun x29 =>
                      (bif decide (((x27l : Int) : Int) < x29) then
                        Q (.tuple #[.slice none 0 0, .int .i64 70]) h_11
                      else
                        Ld h_11 (Addr.mk b1 0 none) fun v22 => DI .i64 v22 fun x30 =>
                        Ld h_11 ((Addr.mk b2 0 none).add 0) fun v23 => DI .i64 v23 fun x31 =>
                        Ld h_11 ((Addr.mk b2 0 none).add 0) fun v24 => DI .i64 v24 fun x32 =>
                        Ld h_11 ((Addr.mk b2 0 none).add 1) fun v25 => DI .i64 v25 fun x33 =>
                        SlV x27a x27c 1 (if (0 : Int) > (IntKind.wrap .i64 (x30 - x31)) then 0 else (IntKind.wrap .i64 (x30 - x31))) (if (x33 : Int) < (IntKind.wrap .i64 (to0 - x32)) then x33 else (IntKind.wrap .i64 (to0 - x32))) (if (x33 : Int) < (IntKind.wrap .i64 (to0 - x32)) then x33 else (IntKind.wrap .i64 (to0 - x32))) fun s2a s2l s2c =>
                        RunH Try.prog (Builtin.append_ #[74, 74] 74 #[.slice s1.1.a s1.1.l s1.1.c, .slice s2a s2l s2c]) h_11 fun r8 h_12 =>
                        DSl r8 fun out0a out0l out0c =>
                        again0 (⟨out0a, out0l, out0c⟩, IntKind.wrap .i64 (s1.2 + 1)) h_12)))))
            else
              Q (.tuple #[.slice s1.1.a s1.1.l s1.1.c, .int .i64 0]) h_3)) (⟨none, 0, 0⟩, 0) h_2))))
theorem F51b_eq : (fun (l_0 : Option Addr) (from_0 : Int) (to0 : Int) (h : Heap) (Q : Value → Heap → Prop) => fnPT Try.prog Try.f51 (fun i => bif Nat.beq i 0 then annCons 8 (codSl) (annOne 49 (codI .i64)) else annNil) (fun _ => []) (fun i => bif Nat.beq i 12 then some ⟨[0, 1, 3, 7, 0, 16, 48, 112, 0, 256, 768, 2047, 4095, 8191, 8191, 16383, 65535], 3072⟩ else none) [.pointer l_0, .int .i64 from_0, .int .i64 to0] h Q) = F51b := by kernel_rfl
theorem F51b_ok {l_0 : Option Addr} {from_0 : Int} {to0 : Int} {h : Heap} {Q : Value → Heap → Prop} (H : F51b l_0 from_0 to0 h Q) : CallsH Try.prog 51 [.pointer l_0, .int .i64 from_0, .int .i64 to0] h Q :=
  callsH_of (ann := fun i => bif Nat.beq i 0 then annCons 8 (codSl) (annOne 49 (codI .i64)) else annNil) (tys := fun _ => []) (pl := fun i => bif Nat.beq i 12 then some ⟨[0, 1, 3, 7, 0, 16, 48, 112, 0, 256, 768, 2047, 4095, 8191, 8191, 16383, 65535], 3072⟩ else none) Try.func51 (by kernel_rfl) (by have e := F51b_eq; exact (congrFun (congrFun (congrFun (congrFun (congrFun (e) l_0) from_0) to0) h) Q).symm ▸ H)

/-- (*headgate/segment.Log).Sync -/
def F52b (l_0 : Option Addr) (h : Heap) (Q : Value → Heap → Prop) : Prop :=
  (bif (l_0).isNone then
    Q (.int .i64 1) h
  else
    CallsH Try.prog 101 [.pointer l_0] h fun r0 h_0 =>
    DP r0 fun p0 =>
    (bif !((p0).isNone) then
      NN' l_0 fun a0 =>
      Ld h_0 (a0.add 0) fun v0 => DP v0 fun x0 =>
      NN' l_0 fun a1 =>
      Ld h_0 (a1.add 1) fun v1 => DS v1 fun x1 =>
      NN' p0 fun a2 =>
      Ld h_0 (a2.add 0) fun v2 => DI .i64 v2 fun x2 =>
      CallsH Try.prog 103 [.int .i64 x2] h_0 fun r1 h_1 =>
      DS r1 fun x3 =>
      (SameV (some (.pointer l_0)) (.pointer l_0)) ∧
      (NN' l_0 fun a3 =>
      SameV (some (.pointer (some a0))) (.pointer (some a3))) ∧
      (SameV (some (.pointer (some (a0.add 0)))) (.pointer (some (a0.add 0)))) ∧
      (Ld h_1 (a0.add 0) fun v3 => DP v3 fun x4 =>
      SameV (some (.pointer x0)) (.pointer x4)) ∧
      (SameV (some (.pointer l_0)) (.pointer l_0)) ∧
      (NN' l_0 fun a4 =>
      SameV (some (.pointer (some a1))) (.pointer (some a4))) ∧
      (SameV (some (.pointer (some (a1.add 1)))) (.pointer (some (a1.add 1)))) ∧
      (Ld h_1 (a1.add 1) fun v4 => DS v4 fun x5 =>
      SameV (some (.string x1)) (.string x5)) ∧
      CallsH Try.prog 19 [.pointer x0, .string x1, .string x3] h_1 fun r2 h_2 =>
      DI .i64 r2 fun e0 =>
      (bif (e0 : Int) != 0 then
        Q (.int .i64 e0) h_2
      else
        NN' l_0 fun a5 =>
        Ld h_2 (a5.add 4) fun v5 => DI .i64 v5 fun x6 =>
        NN' l_0 fun a6 =>
        StC h_2 ((a6.add 5).add 0) (.int .i64 x6) fun h_4 =>
        Q (.int .i64 0) h_4)
    else
      NN' l_0 fun a7 =>
      Ld h_0 (a7.add 4) fun v6 => DI .i64 v6 fun x7 =>
      NN' l_0 fun a8 =>
      StC h_0 ((a8.add 5).add 0) (.int .i64 x7) fun h_6 =>
      Q (.int .i64 0) h_6))
theorem F52b_eq : (fun (l_0 : Option Addr) (h : Heap) (Q : Value → Heap → Prop) => fnPT Try.prog Try.f52 (fun _ => annNil) (fun _ => []) (fun i => bif Nat.beq i 5 then some ⟨[0, 1, 3, 7, 0, 16, 48, 112, 0, 256, 768, 1792, 3840, 8191, 16383], 12288⟩ else none) [.pointer l_0] h Q) = F52b := by kernel_rfl
theorem F52b_ok {l_0 : Option Addr} {h : Heap} {Q : Value → Heap → Prop} (H : F52b l_0 h Q) : CallsH Try.prog 52 [.pointer l_0] h Q :=
  callsH_of (ann := fun _ => annNil) (tys := fun _ => []) (pl := fun i => bif Nat.beq i 5 then some ⟨[0, 1, 3, 7, 0, 16, 48, 112, 0, 256, 768, 1792, 3840, 8191, 16383], 12288⟩ else none) Try.func52 (by kernel_rfl) (by have e := F52b_eq; exact (congrFun (congrFun (congrFun (e) l_0) h) Q).symm ▸ H)

/-- (*headgate/segment.Log).End -/
def F53b (l_0 : Option Addr) (h : Heap) (Q : Value → Heap → Prop) : Prop :=
  (bif (l_0).isNone then
    Q (.int .i64 0) h
  else
    NN' l_0 fun a0 =>
    Ld h (a0.add 4) fun v0 => DI .i64 v0 fun x0 =>
    Q (.int .i64 x0) h)
theorem F53b_eq : (fun (l_0 : Option Addr) (h : Heap) (Q : Value → Heap → Prop) => fnPT Try.prog Try.f53 (fun _ => annNil) (fun _ => []) (fun _ => none) [.pointer l_0] h Q) = F53b := by kernel_rfl
theorem F53b_ok {l_0 : Option Addr} {h : Heap} {Q : Value → Heap → Prop} (H : F53b l_0 h Q) : CallsH Try.prog 53 [.pointer l_0] h Q :=
  callsH_of (ann := fun _ => annNil) (tys := fun _ => []) (pl := fun _ => none) Try.func53 (by kernel_rfl) (by have e := F53b_eq; exact (congrFun (congrFun (congrFun (e) l_0) h) Q).symm ▸ H)

/-- (*headgate/segment.Log).Durable -/
def F54b (l_0 : Option Addr) (h : Heap) (Q : Value → Heap → Prop) : Prop :=
  (bif (l_0).isNone then
    Q (.int .i64 0) h
  else
    NN' l_0 fun a0 =>
    Ld h (a0.add 5) fun v0 => DI .i64 v0 fun x0 =>
    Q (.int .i64 x0) h)
theorem F54b_eq : (fun (l_0 : Option Addr) (h : Heap) (Q : Value → Heap → Prop) => fnPT Try.prog Try.f54 (fun _ => annNil) (fun _ => []) (fun _ => none) [.pointer l_0] h Q) = F54b := by kernel_rfl
theorem F54b_ok {l_0 : Option Addr} {h : Heap} {Q : Value → Heap → Prop} (H : F54b l_0 h Q) : CallsH Try.prog 54 [.pointer l_0] h Q :=
  callsH_of (ann := fun _ => annNil) (tys := fun _ => []) (pl := fun _ => none) Try.func54 (by kernel_rfl) (by have e := F54b_eq; exact (congrFun (congrFun (congrFun (e) l_0) h) Q).symm ▸ H)

/-- (*headgate/segment.Log).Segments -/
def F55b (l_0 : Option Addr) (h : Heap) (Q : Value → Heap → Prop) : Prop :=
  (bif (l_0).isNone then
    Q (.int .i64 0) h
  else
    NN' l_0 fun a0 =>
    Ld h (a0.add 3) fun v0 => DSl v0 fun x0a x0l x0c =>
    Q (.int .i64 (x0l : Int)) h)
theorem F55b_eq : (fun (l_0 : Option Addr) (h : Heap) (Q : Value → Heap → Prop) => fnPT Try.prog Try.f55 (fun _ => annNil) (fun _ => []) (fun _ => none) [.pointer l_0] h Q) = F55b := by kernel_rfl
theorem F55b_ok {l_0 : Option Addr} {h : Heap} {Q : Value → Heap → Prop} (H : F55b l_0 h Q) : CallsH Try.prog 55 [.pointer l_0] h Q :=
  callsH_of (ann := fun _ => annNil) (tys := fun _ => []) (pl := fun _ => none) Try.func55 (by kernel_rfl) (by have e := F55b_eq; exact (congrFun (congrFun (congrFun (e) l_0) h) Q).symm ▸ H)

/-- (*headgate/segment.Log).load -/
def F99b (l_0 : Option Addr) (all0a : Option Addr) (all0l : Nat) (all0c : Nat) (h : Heap) (Q : Value → Heap → Prop) : Prop :=
  LoopH (fun again0 (s0 : Int) h_0 =>
    (bif decide ((s0 : Int) < (all0l : Int)) then
      IdxA all0a all0l s0 1 fun a0 =>
      Ld h_0 a0 fun v0 => DI .i64 v0 fun n0 =>
      NN' l_0 fun a1 =>
      Ld h_0 (a1.add 4) fun v1 => DI .i64 v1 fun x0 =>
      (bif (n0 : Int) != x0 then
        SlV all0a all0c 1 s0 (all0l : Int) (all0c : Int) fun s1a s1l s1c =>
        CallsH Try.prog 130 [.pointer l_0, .slice s1a s1l s1c] h_0 fun r0 h_1 =>
        DI .i64 r0 fun x1 =>
        Q (.int .i64 x1) h_1
      else
        NN' l_0 fun a2 =>
        Ld h_0 (a2.add 0) fun v2 => DP v2 fun x2 =>
        NN' l_0 fun a3 =>
        Ld h_0 (a3.add 1) fun v3 => DS v3 fun x3 =>
        CallsH Try.prog 103 [.int .i64 n0] h_0 fun r1 h_2 =>
        DS r1 fun x4 =>
        (SameV (some (.pointer l_0)) (.pointer l_0)) ∧
        (NN' l_0 fun a4 =>
        SameV (some (.pointer (some a2))) (.pointer (some a4))) ∧
        (SameV (some (.pointer (some (a2.add 0)))) (.pointer (some (a2.add 0)))) ∧
        (Ld h_2 (a2.add 0) fun v4 => DP v4 fun x5 =>
        SameV (some (.pointer x2)) (.pointer x5)) ∧
        (SameV (some (.pointer l_0)) (.pointer l_0)) ∧
        (NN' l_0 fun a5 =>
        SameV (some (.pointer (some a3))) (.pointer (some a5))) ∧
        (SameV (some (.pointer (some (a3.add 1)))) (.pointer (some (a3.add 1)))) ∧
        (Ld h_2 (a3.add 1) fun v5 => DS v5 fun x6 =>
        SameV (some (.string x3)) (.string x6)) ∧
        CallsH Try.prog 25 [.pointer x2, .string x3, .string x4] h_2 fun r2 h_3 =>
        ∃ (x7a : Option Addr), ∃ (x7l : Nat), ∃ (x7c : Nat), ∃ (x8 : Int), r2 = .tuple #[.slice x7a x7l x7c, .int .i64 x8] ∧
        (bif (x8 : Int) != 0 then
          Q (.int .i64 x8) h_3
        else
          CallsH Try.prog 106 [.slice x7a x7l x7c] h_3 fun r3 h_4 =>
          ∃ (x9a : Option Addr), ∃ (x9l : Nat), ∃ (x9c : Nat), ∃ (x10 : Int), r3 = .tuple #[.slice x9a x9l x9c, .int .i64 x10] ∧
          NN' l_0 fun a6 =>
          Ld h_4 (a6.add 3) fun v6 => DSl v6 fun x11a x11l x11c =>
          Al h_4 (.cells #[.int .i64 n0, .int .i64 (x9l : Int), .int .i64 x10] 141) fun b0 h_5 =>
          RunH Try.prog (Builtin.append_ #[132, 132] 132 #[.slice x11a x11l x11c, .slice (some (Addr.mk b0 0 none)) 1 1]) h_5 fun r5 h_6 =>
          DSl r5 fun x12a x12l x12c =>
          NN' l_0 fun a7 =>
          StC h_6 ((a7.add 3).add 0) (.slice x12a x12l x12c) fun h_8 =>
          NN' l_0 fun a8 =>
          Ld h_8 (a8.add 4) fun v7 => DI .i64 v7 fun x13 =>
          NN' l_0 fun a9 =>
          StC h_8 ((a9.add 4).add 0) (.int .i64 (IntKind.wrap .i64 (x13 + (x9l : Int)))) fun h_10 =>
          (bif decide ((x10 : Int) < (x7l : Int)) then
            NN' l_0 fun a10 =>
            Ld h_10 (a10.add 0) fun v8 => DP v8 fun x14 =>
            NN' l_0 fun a11 =>
            Ld h_10 (a11.add 1) fun v9 => DS v9 fun x15 =>
            SlV x7a x7c 1 0 x10 (x7c : Int) fun s2a s2l s2c =>
            CallsH Try.prog 103 [.int .i64 n0] h_10 fun r8 h_11 =>
            DS r8 fun x16 =>
            (SameV (some (.pointer l_0)) (.pointer l_0)) ∧
            (NN' l_0 fun a12 =>
            SameV (some (.pointer (some a10))) (.pointer (some a12))) ∧
            (SameV (some (.pointer (some (a10.add 0)))) (.pointer (some (a10.add 0)))) ∧
            (Ld h_11 (a10.add 0) fun v10 => DP v10 fun x17 =>
            SameV (some (.pointer x14)) (.pointer x17)) ∧
            (SameV (some (.pointer l_0)) (.pointer l_0)) ∧
            (NN' l_0 fun a13 =>
            SameV (some (.pointer (some a11))) (.pointer (some a13))) ∧
            (SameV (some (.pointer (some (a11.add 1)))) (.pointer (some (a11.add 1)))) ∧
            (Ld h_11 (a11.add 1) fun v11 => DS v11 fun x18 =>
            SameV (some (.string x15)) (.string x18)) ∧
            (SameV (some (.slice x7a x7l x7c)) (.slice x7a x7l x7c)) ∧
            (SameV (some (.int .i64 x10)) (.int .i64 x10)) ∧
            (SlV x7a x7c 1 0 x10 (x7c : Int) fun s3a s3l s3c =>
            SameV (some (.slice s2a s2l s2c)) (.slice s3a s3l s3c)) ∧
            CallsH Try.prog 44 [.pointer x14, .string x15, .string x16, .slice s2a s2l s2c] h_11 fun r9 h_12 =>
            DI .i64 r9 fun e0 =>
            (bif (e0 : Int) != 0 then
              Q (.int .i64 e0) h_12
            else
              SlV all0a all0c 1 (IntKind.wrap .i64 (s0 + 1)) (all0l : Int) (all0c : Int) fun s4a s4l s4c =>
              CallsH Try.prog 130 [.pointer l_0, .slice s4a s4l s4c] h_12 fun r10 h_13 =>
              DI .i64 r10 fun x19 =>
              Q (.int .i64 x19) h_13)
          else
            again0 (IntKind.wrap .i64 (s0 + 1)) h_10)))
    else
      Q (.int .i64 0) h_0)) 0 h
theorem F99b_eq : (fun (l_0 : Option Addr) (all0a : Option Addr) (all0l : Nat) (all0c : Nat) (h : Heap) (Q : Value → Heap → Prop) => fnPT Try.prog Try.f99 (fun i => bif Nat.beq i 0 then annOne 14 (codI .i64) else annNil) (fun _ => []) (fun i => bif Nat.beq i 6 then some ⟨[0, 1, 3, 7, 0, 16, 48, 112, 0, 256, 1023, 2047, 4095, 4095, 8191, 32767], 1536⟩ else bif Nat.beq i 13 then some ⟨[0, 1, 3, 7, 0, 16, 48, 112, 0, 256, 0, 0, 3072, 8191, 16383], 8704⟩ else none) [.pointer l_0, .slice all0a all0l all0c] h Q) = F99b := by kernel_rfl
theorem F99b_ok {l_0 : Option Addr} {all0a : Option Addr} {all0l : Nat} {all0c : Nat} {h : Heap} {Q : Value → Heap → Prop} (H : F99b l_0 all0a all0l all0c h Q) : CallsH Try.prog 99 [.pointer l_0, .slice all0a all0l all0c] h Q :=
  callsH_of (ann := fun i => bif Nat.beq i 0 then annOne 14 (codI .i64) else annNil) (tys := fun _ => []) (pl := fun i => bif Nat.beq i 6 then some ⟨[0, 1, 3, 7, 0, 16, 48, 112, 0, 256, 1023, 2047, 4095, 4095, 8191, 32767], 1536⟩ else bif Nat.beq i 13 then some ⟨[0, 1, 3, 7, 0, 16, 48, 112, 0, 256, 0, 0, 3072, 8191, 16383], 8704⟩ else none) Try.func99 (by kernel_rfl) (by have e := F99b_eq; exact (congrFun (congrFun (congrFun (congrFun (congrFun (congrFun (e) l_0) all0a) all0l) all0c) h) Q).symm ▸ H)

/-- headgate/segment.bases -/
def F100b (names0a : Option Addr) (names0l : Nat) (names0c : Nat) (h : Heap) (Q : Value → Heap → Prop) : Prop :=
  LoopH (fun again0 (s0 : Sl × Int) h_0 =>
    (bif decide ((s0.2 : Int) < (names0l : Int)) then
      IdxA names0a names0l s0.2 1 fun a0 =>
      Ld h_0 a0 fun v0 => DS v0 fun s1 =>
      CallsH Try.prog 131 [.string s1, .string ⟨#[115, 46]⟩] h_0 fun r0 h_1 =>
      ∃ (x0 : ByteArray), ∃ (x1 : Bool), r0 = .tuple #[.string x0, .bool x1] ∧
      (bif x1 then
        CallsH Try.prog 45 [.string x0] h_1 fun r1 h_2 =>
        ∃ (x2 : Int), ∃ (x3 : Bool), r1 = .tuple #[.int .i64 x2, .bool x3] ∧
        (bif x3 then
          Al h_2 (.cells #[.int .i64 x2] 2) fun b0 h_3 =>
          RunH Try.prog (Builtin.append_ #[136, 136] 136 #[.slice s0.1.a s0.1.l s0.1.c, .slice (some (Addr.mk b0 0 none)) 1 1]) h_3 fun r3 h_4 =>
          DSl r3 fun l_0a l_0l l_0c =>
          again0 (⟨l_0a, l_0l, l_0c⟩, IntKind.wrap .i64 (s0.2 + 1)) h_4
        else
          again0 (⟨s0.1.a, s0.1.l, s0.1.c⟩, IntKind.wrap .i64 (s0.2 + 1)) h_2)
      else
        again0 (⟨s0.1.a, s0.1.l, s0.1.c⟩, IntKind.wrap .i64 (s0.2 + 1)) h_1)
    else
      Q (.slice s0.1.a s0.1.l s0.1.c) h_0)) (⟨none, 0, 0⟩, 0) h
theorem F100b_eq : (fun (names0a : Option Addr) (names0l : Nat) (names0c : Nat) (h : Heap) (Q : Value → Heap → Prop) => fnPT Try.prog Try.f100 (fun i => bif Nat.beq i 0 then annCons 3 (codSl) (annOne 12 (codI .i64)) else annNil) (fun _ => []) (fun _ => none) [.slice names0a names0l names0c] h Q) = F100b := by kernel_rfl
theorem F100b_ok {names0a : Option Addr} {names0l : Nat} {names0c : Nat} {h : Heap} {Q : Value → Heap → Prop} (H : F100b names0a names0l names0c h Q) : CallsH Try.prog 100 [.slice names0a names0l names0c] h Q :=
  callsH_of (ann := fun i => bif Nat.beq i 0 then annCons 3 (codSl) (annOne 12 (codI .i64)) else annNil) (tys := fun _ => []) (pl := fun _ => none) Try.func100 (by kernel_rfl) (by have e := F100b_eq; exact (congrFun (congrFun (congrFun (congrFun (congrFun (e) names0a) names0l) names0c) h) Q).symm ▸ H)

/-- (*headgate/segment.Log).last -/
def F101b (l_0 : Option Addr) (h : Heap) (Q : Value → Heap → Prop) : Prop :=
  NN' l_0 fun a0 =>
  Ld h (a0.add 3) fun v0 => DSl v0 fun x0a x0l x0c =>
  (bif ((x0l : Int) : Int) == 0 then
    Q (.pointer none) h
  else
    NN' l_0 fun a1 =>
    Ld h (a1.add 3) fun v1 => DSl v1 fun x1a x1l x1c =>
    NN' l_0 fun a2 =>
    Ld h (a2.add 3) fun v2 => DSl v2 fun x2a x2l x2c =>
    IdxA x1a x1l (IntKind.wrap .i64 ((x2l : Int) - 1)) 3 fun a3 =>
    Q (.pointer (some a3)) h)
theorem F101b_eq : (fun (l_0 : Option Addr) (h : Heap) (Q : Value → Heap → Prop) => fnPT Try.prog Try.f101 (fun _ => annNil) (fun _ => []) (fun _ => none) [.pointer l_0] h Q) = F101b := by kernel_rfl
theorem F101b_ok {l_0 : Option Addr} {h : Heap} {Q : Value → Heap → Prop} (H : F101b l_0 h Q) : CallsH Try.prog 101 [.pointer l_0] h Q :=
  callsH_of (ann := fun _ => annNil) (tys := fun _ => []) (pl := fun _ => none) Try.func101 (by kernel_rfl) (by have e := F101b_eq; exact (congrFun (congrFun (congrFun (e) l_0) h) Q).symm ▸ H)

/-- (*headgate/segment.Log).roll -/
def F102b (l_0 : Option Addr) (h : Heap) (Q : Value → Heap → Prop) : Prop :=
  CallsH Try.prog 52 [.pointer l_0] h fun r0 h_0 =>
  DI .i64 r0 fun e0 =>
  (bif (e0 : Int) != 0 then
    Q (.int .i64 e0) h_0
  else
    NN' l_0 fun a0 =>
    Ld h_0 (a0.add 0) fun v0 => DP v0 fun x0 =>
    NN' l_0 fun a1 =>
    Ld h_0 (a1.add 1) fun v1 => DS v1 fun x1 =>
    NN' l_0 fun a2 =>
    Ld h_0 (a2.add 4) fun v2 => DI .i64 v2 fun x2 =>
    CallsH Try.prog 103 [.int .i64 x2] h_0 fun r1 h_1 =>
    DS r1 fun x3 =>
    (SameV (some (.pointer l_0)) (.pointer l_0)) ∧
    (NN' l_0 fun a3 =>
    SameV (some (.pointer (some a0))) (.pointer (some a3))) ∧
    (SameV (some (.pointer (some (a0.add 0)))) (.pointer (some (a0.add 0)))) ∧
    (Ld h_1 (a0.add 0) fun v3 => DP v3 fun x4 =>
    SameV (some (.pointer x0)) (.pointer x4)) ∧
    (SameV (some (.pointer l_0)) (.pointer l_0)) ∧
    (NN' l_0 fun a4 =>
    SameV (some (.pointer (some a1))) (.pointer (some a4))) ∧
    (SameV (some (.pointer (some (a1.add 1)))) (.pointer (some (a1.add 1)))) ∧
    (Ld h_1 (a1.add 1) fun v4 => DS v4 fun x5 =>
    SameV (some (.string x1)) (.string x5)) ∧
    CallsH Try.prog 17 [.pointer x0, .string x1, .string x3] h_1 fun r2 h_2 =>
    DI .i64 r2 fun e1 =>
    (bif (e1 : Int) != 0 then
      Q (.int .i64 e1) h_2
    else
      NN' l_0 fun a5 =>
      Ld h_2 (a5.add 0) fun v5 => DP v5 fun x6 =>
      NN' l_0 fun a6 =>
      Ld h_2 (a6.add 1) fun v6 => DS v6 fun x7 =>
      CallsH Try.prog 20 [.pointer x6, .string x7] h_2 fun r3 h_3 =>
      DI .i64 r3 fun e2 =>
      (bif (e2 : Int) != 0 then
        Q (.int .i64 e2) h_3
      else
        NN' l_0 fun a7 =>
        Ld h_3 (a7.add 3) fun v7 => DSl v7 fun x8a x8l x8c =>
        NN' l_0 fun a8 =>
        Ld h_3 (a8.add 4) fun v8 => DI .i64 v8 fun x9 =>
        Al h_3 (.cells #[.int .i64 x9, .int .i64 0, .int .i64 0] 141) fun b0 h_4 =>
        (SameV (some (.pointer l_0)) (.pointer l_0)) ∧
        (SameV (some (.pointer l_0)) (.pointer l_0)) ∧
        (NN' l_0 fun a9 =>
        SameV (some (.pointer (some a7))) (.pointer (some a9))) ∧
        (SameV (some (.pointer (some (a7.add 3)))) (.pointer (some (a7.add 3)))) ∧
        (Ld h_4 (a7.add 3) fun v9 => DSl v9 fun x10a x10l x10c =>
        SameV (some (.slice x8a x8l x8c)) (.slice x10a x10l x10c)) ∧
        RunH Try.prog (Builtin.append_ #[132, 132] 132 #[.slice x8a x8l x8c, .slice (some (Addr.mk b0 0 none)) 1 1]) h_4 fun r5 h_5 =>
        DSl r5 fun x11a x11l x11c =>
        (SameV (some (.pointer l_0)) (.pointer l_0)) ∧
        NN' l_0 fun a10 =>
        StC h_5 ((a10.add 3).add 0) (.slice x11a x11l x11c) fun h_7 =>
        Q (.int .i64 0) h_7)))
theorem F102b_eq : (fun (l_0 : Option Addr) (h : Heap) (Q : Value → Heap → Prop) => fnPT Try.prog Try.f102 (fun _ => annNil) (fun _ => []) (fun i => bif Nat.beq i 4 then some ⟨[0, 1, 3, 7, 0, 16, 48, 112, 0, 256, 768, 1792, 3840, 8191, 16383], 12288⟩ else bif Nat.beq i 7 then some ⟨[0, 1, 3, 7, 0, 16, 48, 112, 255, 511], 256⟩ else bif Nat.beq i 10 then some ⟨[0, 0, 2, 6, 14, 0, 32, 96, 224, 480, 992, 2046, 4095, 8191, 16383], 19456⟩ else none) [.pointer l_0] h Q) = F102b := by kernel_rfl
theorem F102b_ok {l_0 : Option Addr} {h : Heap} {Q : Value → Heap → Prop} (H : F102b l_0 h Q) : CallsH Try.prog 102 [.pointer l_0] h Q :=
  callsH_of (ann := fun _ => annNil) (tys := fun _ => []) (pl := fun i => bif Nat.beq i 4 then some ⟨[0, 1, 3, 7, 0, 16, 48, 112, 0, 256, 768, 1792, 3840, 8191, 16383], 12288⟩ else bif Nat.beq i 7 then some ⟨[0, 1, 3, 7, 0, 16, 48, 112, 255, 511], 256⟩ else bif Nat.beq i 10 then some ⟨[0, 0, 2, 6, 14, 0, 32, 96, 224, 480, 992, 2046, 4095, 8191, 16383], 19456⟩ else none) Try.func102 (by kernel_rfl) (by have e := F102b_eq; exact (congrFun (congrFun (congrFun (e) l_0) h) Q).symm ▸ H)

/-- headgate/segment.name -/
def F103b (base0 : Int) (h : Heap) (Q : Value → Heap → Prop) : Prop :=
  CallsH Try.prog 39 [.int .i64 base0] h fun r0 h_0 =>
  DS r0 fun x0 =>
  (⟨#[115, 46]⟩ : ByteArray).size + (x0 : ByteArray).size ≤ 9223372036854775807 ∧
  Q (.string (⟨#[115, 46]⟩ ++ x0)) h_0
theorem F103b_eq : (fun (base0 : Int) (h : Heap) (Q : Value → Heap → Prop) => fnPT Try.prog Try.f103 (fun _ => annNil) (fun _ => []) (fun _ => none) [.int .i64 base0] h Q) = F103b := by kernel_rfl
theorem F103b_ok {base0 : Int} {h : Heap} {Q : Value → Heap → Prop} (H : F103b base0 h Q) : CallsH Try.prog 103 [.int .i64 base0] h Q :=
  callsH_of (ann := fun _ => annNil) (tys := fun _ => []) (pl := fun _ => none) Try.func103 (by kernel_rfl) (by have e := F103b_eq; exact (congrFun (congrFun (congrFun (e) base0) h) Q).symm ▸ H)

/-- sort.Search -/
def F104b (n0 : Int) (f0f : Fn) (f0p : Array Value) (f0c : Array Value) (h : Heap) (Q : Value → Heap → Prop) : Prop :=
  LoopH (fun again0 (s0 : Int × Int) h_0 =>
    (bif decide ((s0.1 : Int) < s0.2) then
      0 ≤ (1 : Int) ∧
      CallV Try.prog (.func f0f f0p f0c) [.int .i64 (IntKind.wrap .i64 (shrI .u64 (IntKind.wrap .u64 (IntKind.wrap .i64 (s0.1 + s0.2))) 1))] h_0 fun r0 h_1 =>
      DB r0 fun x0 =>
      (bif !x0 then
        again0 (IntKind.wrap .i64 ((IntKind.wrap .i64 (shrI .u64 (IntKind.wrap .u64 (IntKind.wrap .i64 (s0.1 + s0.2))) 1)) + 1), s0.2) h_1
      else
        again0 (s0.1, IntKind.wrap .i64 (shrI .u64 (IntKind.wrap .u64 (IntKind.wrap .i64 (s0.1 + s0.2))) 1)) h_1)
    else
      Q (.int .i64 s0.1) h_0)) (0, n0) h
theorem F104b_eq : (fun (n0 : Int) (f0f : Fn) (f0p : Array Value) (f0c : Array Value) (h : Heap) (Q : Value → Heap → Prop) => fnPT Try.prog Try.f104 (fun i => bif Nat.beq i 0 then annCons 5 (codI .i64) (annOne 6 (codI .i64)) else annNil) (fun _ => []) (fun _ => none) [.int .i64 n0, .func f0f f0p f0c] h Q) = F104b := by kernel_rfl
theorem F104b_ok {n0 : Int} {f0f : Fn} {f0p : Array Value} {f0c : Array Value} {h : Heap} {Q : Value → Heap → Prop} (H : F104b n0 f0f f0p f0c h Q) : CallsH Try.prog 104 [.int .i64 n0, .func f0f f0p f0c] h Q :=
  callsH_of (ann := fun i => bif Nat.beq i 0 then annCons 5 (codI .i64) (annOne 6 (codI .i64)) else annNil) (tys := fun _ => []) (pl := fun _ => none) Try.func104 (by kernel_rfl) (by have e := F104b_eq; exact (congrFun (congrFun (congrFun (congrFun (congrFun (congrFun (e) n0) f0f) f0p) f0c) h) Q).symm ▸ H)

/-- (*headgate/segment.Log).Read$1 -/
def F105b (i0 : Int) (c0 : Addr) (c1 : Addr) (h : Heap) (Q : Value → Heap → Prop) : Prop :=
  Ld h c0 fun v0 => DP v0 fun x0 =>
  NN' x0 fun a0 =>
  Ld h (a0.add 3) fun v1 => DSl v1 fun x1a x1l x1c =>
  IdxA x1a x1l i0 3 fun a1 =>
  Ld h (a1.add 0) fun v2 => DI .i64 v2 fun x2 =>
  Ld h c0 fun v3 => DP v3 fun x3 =>
  NN' x3 fun a2 =>
  Ld h (a2.add 3) fun v4 => DSl v4 fun x4a x4l x4c =>
  IdxA x4a x4l i0 3 fun a3 =>
  Ld h (a3.add 1) fun v5 => DI .i64 v5 fun x5 =>
  Ld h c1 fun v6 => DI .i64 v6 fun x6 =>
  Q (.bool (decide (((IntKind.wrap .i64 (x2 + x5)) : Int) > x6))) h
theorem F105b_eq : (fun (i0 : Int) (c0 : Addr) (c1 : Addr) (h : Heap) (Q : Value → Heap → Prop) => fnPT Try.prog Try.f105 (fun _ => annNil) (fun _ => []) (fun _ => none) [.int .i64 i0, .pointer (some c0), .pointer (some c1)] h Q) = F105b := by kernel_rfl
theorem F105b_ok {i0 : Int} {c0 : Addr} {c1 : Addr} {h : Heap} {Q : Value → Heap → Prop} (H : F105b i0 c0 c1 h Q) : CallsH Try.prog 105 [.int .i64 i0, .pointer (some c0), .pointer (some c1)] h Q :=
  callsH_of (ann := fun _ => annNil) (tys := fun _ => []) (pl := fun _ => none) Try.func105 (by kernel_rfl) (by have e := F105b_eq; exact (congrFun (congrFun (congrFun (congrFun (congrFun (e) i0) c0) c1) h) Q).symm ▸ H)

/-- headgate/segment.good -/
def F106b (b0a : Option Addr) (b0l : Nat) (b0c : Nat) (h : Heap) (Q : Value → Heap → Prop) : Prop :=
  Al h (.cells #[.slice none 0 0] 74) fun b1 h_0 =>
  Al h_0 (.cells #[.int .i64 0] 3) fun b2 h_1 =>
  StC h_1 ((Addr.mk b2 0 none).add 0) (.int .i64 0) fun h_3 =>
  CallsH Try.prog 132 [.slice b0a b0l b0c] h_3 fun r3 h_4 =>
  ∃ (x0 : Value), r3 = x0 ∧
  RangeFn Try.prog x0 2 none h_4 (fun l_0 rec_0 args0 h_5 Q_0 =>
    ∃ (y0 : Int), ∃ (y1a : Option Addr), ∃ (y1l : Nat), ∃ (y1c : Nat), args0 = [.int .i64 y0, .slice y1a y1l y1c] ∧
    h_5[l_0]? = some (rec_0 .ready none) ∧
    (bif decide (((y1l : Int) : Int) > 1024) then
      (h_5.setIfInBounds l_0 (rec_0 .busy none))[l_0]? = some (rec_0 .busy none) ∧ Q_0 (.bool false) ((h_5.setIfInBounds l_0 (rec_0 .busy none)).setIfInBounds l_0 (rec_0 .done (some (.exit 0))))
    else
      Ld (h_5.setIfInBounds l_0 (rec_0 .busy none)) (Addr.mk b1 0 none) fun v0 => DSl v0 fun x1a x1l x1c =>
      SlV y1a y1c 1 0 (y1l : Int) (y1l : Int) fun s0a s0l s0c =>
      Al (h_5.setIfInBounds l_0 (rec_0 .busy none)) (.cells #[.slice s0a s0l s0c] 31) fun b3 h_6 =>
      (Ld h_6 (Addr.mk b1 0 none) fun v1 => DSl v1 fun x2a x2l x2c =>
      SameV (some (.slice x1a x1l x1c)) (.slice x2a x2l x2c)) ∧
      RunH Try.prog (Builtin.append_ #[74, 74] 74 #[.slice x1a x1l x1c, .slice (some (Addr.mk b3 0 none)) 1 1]) h_6 fun r5 h_7 =>
      DSl r5 fun x3a x3l x3c =>
      StC h_7 ((Addr.mk b1 0 none).add 0) (.slice x3a x3l x3c) fun h_9 =>
      StC h_9 ((Addr.mk b2 0 none).add 0) (.int .i64 (IntKind.wrap .i64 ((IntKind.wrap .i64 (y0 + 8)) + (y1l : Int)))) fun h_11 =>
      h_11[l_0]? = some (rec_0 .busy none) ∧ Q_0 (.bool true) (h_11.setIfInBounds l_0 (rec_0 .ready none)))) (fun pend0 h_12 =>
    (pend0 = none ∨ pend0 = some (.exit 0)) ∧
    (pend0 = none →
      Ld h_12 (Addr.mk b1 0 none) fun v2 => DSl v2 fun x4a x4l x4c =>
      Ld h_12 (Addr.mk b2 0 none) fun v3 => DI .i64 v3 fun x5 =>
      h_12[h_4.size]? = some (.deferred (some [])) ∧
      Q (.tuple #[.slice x4a x4l x4c, .int .i64 x5]) (h_12.setIfInBounds h_4.size (.deferred none))) ∧
    (pend0 = some (.exit 0) →
      Ld h_12 (Addr.mk b1 0 none) fun v4 => DSl v4 fun x6a x6l x6c =>
      Ld h_12 (Addr.mk b2 0 none) fun v5 => DI .i64 v5 fun x7 =>
      h_12[h_4.size]? = some (.deferred (some [])) ∧
      Q (.tuple #[.slice x6a x6l x6c, .int .i64 x7]) (h_12.setIfInBounds h_4.size (.deferred none))))
theorem F106b_eq : (fun (b0a : Option Addr) (b0l : Nat) (b0c : Nat) (h : Heap) (Q : Value → Heap → Prop) => fnPT Try.prog Try.f106 (fun _ => annNil) (fun i => bif Nat.beq i 0 then [3, 31] else []) (fun i => bif Nat.beq i 7 then some ⟨[0, 0, 0, 4, 0, 16, 62, 126, 255, 511], 896⟩ else none) [.slice b0a b0l b0c] h Q) = F106b := by kernel_rfl
theorem F106b_ok {b0a : Option Addr} {b0l : Nat} {b0c : Nat} {h : Heap} {Q : Value → Heap → Prop} (H : F106b b0a b0l b0c h Q) : CallsH Try.prog 106 [.slice b0a b0l b0c] h Q :=
  callsH_of (ann := fun _ => annNil) (tys := fun i => bif Nat.beq i 0 then [3, 31] else []) (pl := fun i => bif Nat.beq i 7 then some ⟨[0, 0, 0, 4, 0, 16, 62, 126, 255, 511], 896⟩ else none) Try.func106 (by kernel_rfl) (by have e := F106b_eq; exact (congrFun (congrFun (congrFun (congrFun (congrFun (e) b0a) b0l) b0c) h) Q).symm ▸ H)

end Go.Proofs.Yticjjdhaikbdaaa
