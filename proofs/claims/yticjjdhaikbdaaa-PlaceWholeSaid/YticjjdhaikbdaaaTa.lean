/- The texts over heaps of functions of the program: written by a program of this claim's writer (decomp.py); Lean checks each against the code. -/
import Derived.Test.YticjjdhaikbdaaaFwA
import Derived.Test.YticjjdhaikbdaaaProg
namespace Go.Proofs.Yticjjdhaikbdaaa
open Go Go.RowKit
set_option linter.unusedVariables false
set_option maxRecDepth 100000

/-- headgate/headgatelaw06.FsRenames -/
def F3 (elder0 : ByteArray) (newer0 : ByteArray) (picks0a : Option Addr) (picks0l : Nat) (picks0c : Nat) (fuse0 : Int) (h : Heap) (Q : Value → Heap → Prop) : Prop :=
  CallsH Try.prog 14 [] h fun r0 h_0 =>
  DB r0 fun x0 =>
  (bif !x0 then
    Q (.bool false) h_0
  else
    (bif decide (((IntKind.wrap .i64 (((elder0 : ByteArray).size : Int) + ((newer0 : ByteArray).size : Int))) : Int) > 4000) then
      Q (.bool true) h_0
    else
      (bif decide (((picks0l : Int) : Int) > 100) then
        Q (.bool true) h_0
      else
        (bif strEq elder0 newer0 then
          Q (.bool true) h_0
        else
          CallsH Try.prog 15 [.int .i64 1048576] h_0 fun r1 h_1 =>
          ∃ (x1 : Option Addr), ∃ (x2 : Int), r1 = .tuple #[.pointer x1, .int .i64 x2] ∧
          CallsH Try.prog 16 [.pointer x1, .string ⟨#[100]⟩] h_1 fun r2 h_2 =>
          DI .i64 r2 fun x3 =>
          CallsH Try.prog 17 [.pointer x1, .string ⟨#[100]⟩, .string ⟨#[97]⟩] h_2 fun r3 h_3 =>
          DI .i64 r3 fun x4 =>
          RunH Try.prog (Go.convert 9 31 (.string elder0)) h_3 fun r4 h_4 =>
          DSl r4 fun x5a x5l x5c =>
          CallsH Try.prog 18 [.pointer x1, .string ⟨#[100]⟩, .string ⟨#[97]⟩, .slice x5a x5l x5c] h_4 fun r5 h_5 =>
          DI .i64 r5 fun x6 =>
          CallsH Try.prog 19 [.pointer x1, .string ⟨#[100]⟩, .string ⟨#[97]⟩] h_5 fun r6 h_6 =>
          DI .i64 r6 fun x7 =>
          CallsH Try.prog 20 [.pointer x1, .string ⟨#[100]⟩] h_6 fun r7 h_7 =>
          DI .i64 r7 fun x8 =>
          (7 : Int) ≠ 0 ∧
          CallsH Try.prog 21 [.pointer x1, .int .i64 (IntKind.wrap .i64 (Int.tmod fuse0 7))] h_7 fun r8 h_8 =>
          DI .i64 r8 fun x9 =>
          CallsH Try.prog 17 [.pointer x1, .string ⟨#[100]⟩, .string ⟨#[116]⟩] h_8 fun r9 h_9 =>
          DI .i64 r9 fun x10 =>
          RunH Try.prog (Go.convert 9 31 (.string newer0)) h_9 fun r10 h_10 =>
          DSl r10 fun x11a x11l x11c =>
          CallsH Try.prog 18 [.pointer x1, .string ⟨#[100]⟩, .string ⟨#[116]⟩, .slice x11a x11l x11c] h_10 fun r11 h_11 =>
          DI .i64 r11 fun x12 =>
          CallsH Try.prog 19 [.pointer x1, .string ⟨#[100]⟩, .string ⟨#[116]⟩] h_11 fun r12 h_12 =>
          DI .i64 r12 fun x13 =>
          (bif (x13 : Int) == 0 then
            CallsH Try.prog 22 [.pointer x1, .string ⟨#[100]⟩, .string ⟨#[116]⟩, .string ⟨#[97]⟩] h_12 fun r13 h_13 =>
            DI .i64 r13 fun x14 =>
            CallsH Try.prog 20 [.pointer x1, .string ⟨#[100]⟩] h_13 fun r14 h_14 =>
            DI .i64 r14 fun x15 =>
            CallsH Try.prog 23 [.pointer x1] h_14 fun r15 h_15 =>
            DI .i64 r15 fun was0 =>
            CallsH Try.prog 24 [.pointer x1, .slice picks0a picks0l picks0c] h_15 fun r16 h_16 =>
            DI .i64 r16 fun x16 =>
            CallsH Try.prog 25 [.pointer x1, .string ⟨#[100]⟩, .string ⟨#[97]⟩] h_16 fun r17 h_17 =>
            ∃ (x17a : Option Addr), ∃ (x17l : Nat), ∃ (x17c : Nat), ∃ (x18 : Int), r17 = .tuple #[.slice x17a x17l x17c, .int .i64 x18] ∧
            (bif (x18 : Int) != 0 then
              Q (.bool false) h_17
            else
              ∃ bs0 : ByteArray, BytesIn h_17 x17a x17l bs0 ∧
              (bif !strEq bs0 elder0 then
                ∃ bs1 : ByteArray, BytesIn h_17 x17a x17l bs1 ∧
                (bif !strEq bs1 newer0 then
                  Q (.bool false) h_17
                else
                  (bif decide ((was0 : Int) < 10) then
                    Q (.bool true) h_17
                  else
                    ∃ bs2 : ByteArray, BytesIn h_17 x17a x17l bs2 ∧
                    Q (.bool (strEq bs2 newer0)) h_17))
              else
                (bif decide ((was0 : Int) < 10) then
                  Q (.bool true) h_17
                else
                  ∃ bs3 : ByteArray, BytesIn h_17 x17a x17l bs3 ∧
                  Q (.bool (strEq bs3 newer0)) h_17)))
          else
            CallsH Try.prog 20 [.pointer x1, .string ⟨#[100]⟩] h_12 fun r18 h_18 =>
            DI .i64 r18 fun x19 =>
            CallsH Try.prog 23 [.pointer x1] h_18 fun r19 h_19 =>
            DI .i64 r19 fun was1 =>
            CallsH Try.prog 24 [.pointer x1, .slice picks0a picks0l picks0c] h_19 fun r20 h_20 =>
            DI .i64 r20 fun x20 =>
            CallsH Try.prog 25 [.pointer x1, .string ⟨#[100]⟩, .string ⟨#[97]⟩] h_20 fun r21 h_21 =>
            ∃ (x21a : Option Addr), ∃ (x21l : Nat), ∃ (x21c : Nat), ∃ (x22 : Int), r21 = .tuple #[.slice x21a x21l x21c, .int .i64 x22] ∧
            (bif (x22 : Int) != 0 then
              Q (.bool false) h_21
            else
              ∃ bs4 : ByteArray, BytesIn h_21 x21a x21l bs4 ∧
              (bif !strEq bs4 elder0 then
                ∃ bs5 : ByteArray, BytesIn h_21 x21a x21l bs5 ∧
                (bif !strEq bs5 newer0 then
                  Q (.bool false) h_21
                else
                  (bif decide ((was1 : Int) < 10) then
                    Q (.bool true) h_21
                  else
                    ∃ bs6 : ByteArray, BytesIn h_21 x21a x21l bs6 ∧
                    Q (.bool (strEq bs6 newer0)) h_21))
              else
                (bif decide ((was1 : Int) < 10) then
                  Q (.bool true) h_21
                else
                  ∃ bs7 : ByteArray, BytesIn h_21 x21a x21l bs7 ∧
                  Q (.bool (strEq bs7 newer0)) h_21))))))))
theorem F3_eq : (fun (elder0 : ByteArray) (newer0 : ByteArray) (picks0a : Option Addr) (picks0l : Nat) (picks0c : Nat) (fuse0 : Int) (h : Heap) (Q : Value → Heap → Prop) => fnPT Try.prog Try.f3 (fun _ => annNil) (fun _ => []) (fun _ => none) [.string elder0, .string newer0, .slice picks0a picks0l picks0c, .int .u8 fuse0] h Q) = F3 := by kernel_rfl
theorem F3_ok {elder0 : ByteArray} {newer0 : ByteArray} {picks0a : Option Addr} {picks0l : Nat} {picks0c : Nat} {fuse0 : Int} {h : Heap} {Q : Value → Heap → Prop} (H : F3 elder0 newer0 picks0a picks0l picks0c fuse0 h Q) : CallsH Try.prog 3 [.string elder0, .string newer0, .slice picks0a picks0l picks0c, .int .u8 fuse0] h Q :=
  callsH_of (ann := fun _ => annNil) (tys := fun _ => []) (pl := fun _ => none) Try.func3 (by kernel_rfl) (by have e := F3_eq; exact (congrFun (congrFun (congrFun (congrFun (congrFun (congrFun (congrFun (congrFun (e) elder0) newer0) picks0a) picks0l) picks0c) fuse0) h) Q).symm ▸ H)

/-- headgate/headgatelaw06.FsPlain -/
def F4 (acts0a : Option Addr) (acts0l : Nat) (acts0c : Nat) (h : Heap) (Q : Value → Heap → Prop) : Prop :=
  CallsH Try.prog 14 [] h fun r0 h_0 =>
  DB r0 fun x0 =>
  (bif !x0 then
    Q (.bool false) h_0
  else
    CallsH Try.prog 26 [.slice acts0a acts0l acts0c] h_0 fun r1 h_1 =>
    DB r1 fun x1 =>
    (bif x1 then
      Q (.bool true) h_1
    else
      CallsH Try.prog 15 [.int .i64 268435456] h_1 fun r2 h_2 =>
      ∃ (x2 : Option Addr), ∃ (x3 : Int), r2 = .tuple #[.pointer x2, .int .i64 x3] ∧
      CallsH Try.prog 16 [.pointer x2, .string ⟨#[100]⟩] h_2 fun r3 h_3 =>
      DI .i64 r3 fun x4 =>
      (bif (x4 : Int) != 0 then
        Q (.bool false) h_3
      else
        Al h_3 (.cells #[.slice none 0 0] 41) fun b0 h_4 =>
        Al h_4 (.cells #[.slice none 0 0] 41) fun b1 h_5 =>
        LoopH (fun again0 (s0 : Int) h_6 =>
          (bif decide ((s0 : Int) < (acts0l : Int)) then
            (bif decide ((s0 : Int) < 100) then
              IdxA acts0a acts0l s0 7 fun a0 =>
              Ld h_6 (a0.add 0) fun c0 =>
              Ld h_6 (a0.add 1) fun c1 =>
              Ld h_6 (a0.add 2) fun c2 =>
              Ld h_6 (a0.add 3) fun c3 =>
              Ld h_6 (a0.add 4) fun c4 =>
              Ld h_6 (a0.add 5) fun c5 =>
              Ld h_6 (a0.add 6) fun c6 =>
              ∃ (x5 : Int), ∃ (x6 : ByteArray), ∃ (x7 : ByteArray), ∃ (x8 : ByteArray), ∃ (x9 : Int), ∃ (x10 : Int), ∃ (x11a : Option Addr), ∃ (x11l : Nat), ∃ (x11c : Nat), (Value.agg #[c0, c1, c2, c3, c4, c5, c6]) = .agg #[.int .i64 x5, .string x6, .string x7, .string x8, .int .i64 x9, .int .u8 x10, .slice x11a x11l x11c] ∧
              Al h_6 (.cells #[.int .i64 0, .string .empty, .string .empty, .string .empty, .int .i64 0, .int .u8 0, .slice none 0 0] 45) fun b2 h_7 =>
              StC h_7 ((Addr.mk b2 0 none).add 0) (.int .i64 x5) fun h_9 =>
              StC h_9 ((Addr.mk b2 0 none).add 1) (.string x6) fun h_10 =>
              StC h_10 ((Addr.mk b2 0 none).add 2) (.string x7) fun h_11 =>
              StC h_11 ((Addr.mk b2 0 none).add 3) (.string x8) fun h_12 =>
              StC h_12 ((Addr.mk b2 0 none).add 4) (.int .i64 x9) fun h_13 =>
              StC h_13 ((Addr.mk b2 0 none).add 5) (.int .u8 x10) fun h_14 =>
              StC h_14 ((Addr.mk b2 0 none).add 6) (.slice x11a x11l x11c) fun h_15 =>
              Ld h_15 ((Addr.mk b2 0 none).add 2) fun v0 => DS v0 fun x12 =>
              CallsH Try.prog 27 [.string x12, .pointer (some (Addr.mk b0 0 none))] h_15 fun r8 h_16 =>
              DI .i64 r8 fun at_0 =>
              Ld h_16 ((Addr.mk b2 0 none).add 0) fun v1 => DI .i64 v1 fun x13 =>
              (bif (x13 : Int) == 1 then
                Ld h_16 ((Addr.mk b2 0 none).add 2) fun v2 => DS v2 fun x14 =>
                CallsH Try.prog 17 [.pointer x2, .string ⟨#[100]⟩, .string x14] h_16 fun r9 h_17 =>
                DI .i64 r9 fun x15 =>
                (bif (x15 : Int) == 0 then
                  (bif decide ((at_0 : Int) ≥ 0) then
                    Q (.bool false) h_17
                  else
                    Ld h_17 (Addr.mk b0 0 none) fun v3 => DSl v3 fun x16a x16l x16c =>
                    Ld h_17 ((Addr.mk b2 0 none).add 2) fun v4 => DS v4 fun x17 =>
                    Al h_17 (.cells #[.string x17] 9) fun b3 h_18 =>
                    RunH Try.prog (Builtin.append_ #[41, 41] 41 #[.slice x16a x16l x16c, .slice (some (Addr.mk b3 0 none)) 1 1]) h_18 fun r11 h_19 =>
                    DSl r11 fun x18a x18l x18c =>
                    StC h_19 ((Addr.mk b0 0 none).add 0) (.slice x18a x18l x18c) fun h_21 =>
                    Ld h_21 (Addr.mk b1 0 none) fun v5 => DSl v5 fun x19a x19l x19c =>
                    Al h_21 (.cells #[.string .empty] 9) fun b4 h_22 =>
                    RunH Try.prog (Builtin.append_ #[41, 41] 41 #[.slice x19a x19l x19c, .slice (some (Addr.mk b4 0 none)) 1 1]) h_22 fun r14 h_23 =>
                    DSl r14 fun x20a x20l x20c =>
                    StC h_23 ((Addr.mk b1 0 none).add 0) (.slice x20a x20l x20c) fun h_25 =>
                    again0 (IntKind.wrap .i64 (s0 + 1)) h_25)
                else
                  again0 (IntKind.wrap .i64 (s0 + 1)) h_17)
              else
                (bif (x13 : Int) == 2 then
                  Ld h_16 ((Addr.mk b2 0 none).add 2) fun v6 => DS v6 fun x21 =>
                  Ld h_16 ((Addr.mk b2 0 none).add 3) fun v7 => DS v7 fun x22 =>
                  RunH Try.prog (Go.convert 9 31 (.string x22)) h_16 fun r16 h_26 =>
                  DSl r16 fun x23a x23l x23c =>
                  CallsH Try.prog 18 [.pointer x2, .string ⟨#[100]⟩, .string x21, .slice x23a x23l x23c] h_26 fun r17 h_27 =>
                  DI .i64 r17 fun x24 =>
                  (bif (x24 : Int) == 0 then
                    (bif decide ((at_0 : Int) < 0) then
                      Q (.bool false) h_27
                    else
                      Ld h_27 (Addr.mk b1 0 none) fun v8 => DSl v8 fun x25a x25l x25c =>
                      Ld h_27 (Addr.mk b1 0 none) fun v9 => DSl v9 fun x26a x26l x26c =>
                      IdxA x26a x26l at_0 1 fun a1 =>
                      Ld h_27 a1 fun v10 => DS v10 fun x27 =>
                      Ld h_27 ((Addr.mk b2 0 none).add 3) fun v11 => DS v11 fun x28 =>
                      (x27 : ByteArray).size + (x28 : ByteArray).size ≤ 9223372036854775807 ∧
                      IdxA x25a x25l at_0 1 fun a2 =>
                      StC h_27 (a2.add 0) (.string (x27 ++ x28)) fun h_29 =>
                      again0 (IntKind.wrap .i64 (s0 + 1)) h_29)
                  else
                    again0 (IntKind.wrap .i64 (s0 + 1)) h_27)
                else
                  (bif (x13 : Int) == 5 then
                    Ld h_16 ((Addr.mk b2 0 none).add 2) fun v12 => DS v12 fun x29 =>
                    Ld h_16 ((Addr.mk b2 0 none).add 3) fun v13 => DS v13 fun x30 =>
                    CallsH Try.prog 22 [.pointer x2, .string ⟨#[100]⟩, .string x29, .string x30] h_16 fun r19 h_30 =>
                    DI .i64 r19 fun x31 =>
                    (bif (x31 : Int) == 0 then
                      (bif decide ((at_0 : Int) < 0) then
                        Q (.bool false) h_30
                      else
                        Ld h_30 (Addr.mk b1 0 none) fun v14 => DSl v14 fun x32a x32l x32c =>
                        IdxA x32a x32l at_0 1 fun a3 =>
                        Ld h_30 a3 fun v15 => DS v15 fun s1 =>
                        CallsH Try.prog 28 [.int .i64 at_0, .pointer (some (Addr.mk b0 0 none)), .pointer (some (Addr.mk b1 0 none))] h_30 fun r20 h_31 =>
                        r20 = .tuple #[] ∧
                        Ld h_31 ((Addr.mk b2 0 none).add 3) fun v16 => DS v16 fun x33 =>
                        CallsH Try.prog 27 [.string x33, .pointer (some (Addr.mk b0 0 none))] h_31 fun r21 h_32 =>
                        DI .i64 r21 fun k0 =>
                        (bif decide ((k0 : Int) ≥ 0) then
                          CallsH Try.prog 28 [.int .i64 k0, .pointer (some (Addr.mk b0 0 none)), .pointer (some (Addr.mk b1 0 none))] h_32 fun r22 h_33 =>
                          r22 = .tuple #[] ∧
                          Ld h_33 (Addr.mk b0 0 none) fun v17 => DSl v17 fun x34a x34l x34c =>
                          Ld h_33 ((Addr.mk b2 0 none).add 3) fun v18 => DS v18 fun x35 =>
                          Al h_33 (.cells #[.string x35] 9) fun b5 h_34 =>
                          RunH Try.prog (Builtin.append_ #[41, 41] 41 #[.slice x34a x34l x34c, .slice (some (Addr.mk b5 0 none)) 1 1]) h_34 fun r24 h_35 =>
                          DSl r24 fun x36a x36l x36c =>
                          StC h_35 ((Addr.mk b0 0 none).add 0) (.slice x36a x36l x36c) fun h_37 =>
                          Ld h_37 (Addr.mk b1 0 none) fun v19 => DSl v19 fun x37a x37l x37c =>
                          Al h_37 (.cells #[.string s1] 9) fun b6 h_38 =>
                          RunH Try.prog (Builtin.append_ #[41, 41] 41 #[.slice x37a x37l x37c, .slice (some (Addr.mk b6 0 none)) 1 1]) h_38 fun r27 h_39 =>
                          DSl r27 fun x38a x38l x38c =>
                          StC h_39 ((Addr.mk b1 0 none).add 0) (.slice x38a x38l x38c) fun h_41 =>
                          again0 (IntKind.wrap .i64 (s0 + 1)) h_41
                        else
                          Ld h_32 (Addr.mk b0 0 none) fun v20 => DSl v20 fun x39a x39l x39c =>
                          Ld h_32 ((Addr.mk b2 0 none).add 3) fun v21 => DS v21 fun x40 =>
                          Al h_32 (.cells #[.string x40] 9) fun b7 h_42 =>
                          RunH Try.prog (Builtin.append_ #[41, 41] 41 #[.slice x39a x39l x39c, .slice (some (Addr.mk b7 0 none)) 1 1]) h_42 fun r30 h_43 =>
                          DSl r30 fun x41a x41l x41c =>
                          StC h_43 ((Addr.mk b0 0 none).add 0) (.slice x41a x41l x41c) fun h_45 =>
                          Ld h_45 (Addr.mk b1 0 none) fun v22 => DSl v22 fun x42a x42l x42c =>
                          Al h_45 (.cells #[.string s1] 9) fun b8 h_46 =>
                          RunH Try.prog (Builtin.append_ #[41, 41] 41 #[.slice x42a x42l x42c, .slice (some (Addr.mk b8 0 none)) 1 1]) h_46 fun r33 h_47 =>
                          DSl r33 fun x43a x43l x43c =>
                          StC h_47 ((Addr.mk b1 0 none).add 0) (.slice x43a x43l x43c) fun h_49 =>
                          again0 (IntKind.wrap .i64 (s0 + 1)) h_49))
                    else
                      again0 (IntKind.wrap .i64 (s0 + 1)) h_30)
                  else
                    (bif (x13 : Int) == 6 then
                      Ld h_16 ((Addr.mk b2 0 none).add 2) fun v23 => DS v23 fun x44 =>
                      CallsH Try.prog 29 [.pointer x2, .string ⟨#[100]⟩, .string x44] h_16 fun r35 h_50 =>
                      DI .i64 r35 fun x45 =>
                      (bif (x45 : Int) == 0 then
                        (bif decide ((at_0 : Int) < 0) then
                          Q (.bool false) h_50
                        else
                          CallsH Try.prog 28 [.int .i64 at_0, .pointer (some (Addr.mk b0 0 none)), .pointer (some (Addr.mk b1 0 none))] h_50 fun r36 h_51 =>
                          r36 = .tuple #[] ∧
                          again0 (IntKind.wrap .i64 (s0 + 1)) h_51)
                      else
                        again0 (IntKind.wrap .i64 (s0 + 1)) h_50)
                    else
                      again0 (IntKind.wrap .i64 (s0 + 1)) h_16))))
            else
              CallsH Try.prog 30 [.pointer x2, .string ⟨#[100]⟩] h_6 fun r37 h_52 =>
              ∃ (x46a : Option Addr), ∃ (x46l : Nat), ∃ (x46c : Nat), ∃ (x47 : Int), r37 = .tuple #[.slice x46a x46l x46c, .int .i64 x47] ∧
              (bif (x47 : Int) != 0 then
                Q (.bool false) h_52
              else
                Ld h_52 (Addr.mk b0 0 none) fun v24 => DSl v24 fun x48a x48l x48c =>
                (bif ((x46l : Int) : Int) != (x48l : Int) then
                  Q (.bool false) h_52
                else
                  LoopH (fun again1 (s2 : Int × Int) h_53 =>
                    (bif decide ((s2.2 : Int) < (x46l : Int)) then
                      IdxA x46a x46l s2.2 1 fun a4 =>
                      Ld h_53 a4 fun v25 => DS v25 fun x49 =>
                      CallsH Try.prog 25 [.pointer x2, .string ⟨#[100]⟩, .string x49] h_53 fun r38 h_54 =>
                      ∃ (x50a : Option Addr), ∃ (x50l : Nat), ∃ (x50c : Nat), ∃ (x51 : Int), r38 = .tuple #[.slice x50a x50l x50c, .int .i64 x51] ∧
                      IdxA x46a x46l s2.2 1 fun a5 =>
                      Ld h_54 a5 fun v26 => DS v26 fun x52 =>
                      CallsH Try.prog 27 [.string x52, .pointer (some (Addr.mk b0 0 none))] h_54 fun r39 h_55 =>
                      DI .i64 r39 fun at_1 =>
                      (bif (x51 : Int) != 0 then
                        Q (.bool false) h_55
                      else
                        (bif decide ((at_1 : Int) < 0) then
                          Q (.bool false) h_55
                        else
                          ∃ bs0 : ByteArray, BytesIn h_55 x50a x50l bs0 ∧
                          Ld h_55 (Addr.mk b1 0 none) fun v27 => DSl v27 fun x53a x53l x53c =>
                          IdxA x53a x53l at_1 1 fun a6 =>
                          Ld h_55 a6 fun v28 => DS v28 fun x54 =>
                          (bif !strEq bs0 x54 then
                            Q (.bool false) h_55
                          else
                            (bif decide ((s2.2 : Int) > 0) then
                              IdxA x46a x46l (IntKind.wrap .i64 (s2.2 - 1)) 1 fun a7 =>
                              Ld h_55 a7 fun v29 => DS v29 fun x55 =>
                              IdxA x46a x46l s2.2 1 fun a8 =>
                              Ld h_55 a8 fun v30 => DS v30 fun x56 =>
                              (bif !strLt x55 x56 then
                                Q (.bool false) h_55
                              else
                                again1 (IntKind.wrap .i64 (s2.1 + (x50l : Int)), IntKind.wrap .i64 (s2.2 + 1)) h_55)
                            else
                              again1 (IntKind.wrap .i64 (s2.1 + (x50l : Int)), IntKind.wrap .i64 (s2.2 + 1)) h_55))))
                    else
                      CallsH Try.prog 31 [.pointer x2] h_53 fun r40 h_56 =>
                      DI .i64 r40 fun x57 =>
                      Q (.bool ((x57 : Int) == s2.1)) h_56)) (0, 0) h_52)))
          else
            CallsH Try.prog 30 [.pointer x2, .string ⟨#[100]⟩] h_6 fun r41 h_57 =>
            ∃ (x58a : Option Addr), ∃ (x58l : Nat), ∃ (x58c : Nat), ∃ (x59 : Int), r41 = .tuple #[.slice x58a x58l x58c, .int .i64 x59] ∧
            (bif (x59 : Int) != 0 then
              Q (.bool false) h_57
            else
              Ld h_57 (Addr.mk b0 0 none) fun v31 => DSl v31 fun x60a x60l x60c =>
              (bif ((x58l : Int) : Int) != (x60l : Int) then
                Q (.bool false) h_57
              else
                LoopH (fun again2 (s3 : Int × Int) h_58 =>
                  (bif decide ((s3.2 : Int) < (x58l : Int)) then
                    IdxA x58a x58l s3.2 1 fun a9 =>
                    Ld h_58 a9 fun v32 => DS v32 fun x61 =>
                    CallsH Try.prog 25 [.pointer x2, .string ⟨#[100]⟩, .string x61] h_58 fun r42 h_59 =>
                    ∃ (x62a : Option Addr), ∃ (x62l : Nat), ∃ (x62c : Nat), ∃ (x63 : Int), r42 = .tuple #[.slice x62a x62l x62c, .int .i64 x63] ∧
                    IdxA x58a x58l s3.2 1 fun a10 =>
                    Ld h_59 a10 fun v33 => DS v33 fun x64 =>
                    CallsH Try.prog 27 [.string x64, .pointer (some (Addr.mk b0 0 none))] h_59 fun r43 h_60 =>
                    DI .i64 r43 fun at_2 =>
                    (bif (x63 : Int) != 0 then
                      Q (.bool false) h_60
                    else
                      (bif decide ((at_2 : Int) < 0) then
                        Q (.bool false) h_60
                      else
                        ∃ bs1 : ByteArray, BytesIn h_60 x62a x62l bs1 ∧
                        Ld h_60 (Addr.mk b1 0 none) fun v34 => DSl v34 fun x65a x65l x65c =>
                        IdxA x65a x65l at_2 1 fun a11 =>
                        Ld h_60 a11 fun v35 => DS v35 fun x66 =>
                        (bif !strEq bs1 x66 then
                          Q (.bool false) h_60
                        else
                          (bif decide ((s3.2 : Int) > 0) then
                            IdxA x58a x58l (IntKind.wrap .i64 (s3.2 - 1)) 1 fun a12 =>
                            Ld h_60 a12 fun v36 => DS v36 fun x67 =>
                            IdxA x58a x58l s3.2 1 fun a13 =>
                            Ld h_60 a13 fun v37 => DS v37 fun x68 =>
                            (bif !strLt x67 x68 then
                              Q (.bool false) h_60
                            else
                              again2 (IntKind.wrap .i64 (s3.1 + (x62l : Int)), IntKind.wrap .i64 (s3.2 + 1)) h_60)
                          else
                            again2 (IntKind.wrap .i64 (s3.1 + (x62l : Int)), IntKind.wrap .i64 (s3.2 + 1)) h_60))))
                  else
                    CallsH Try.prog 31 [.pointer x2] h_58 fun r44 h_61 =>
                    DI .i64 r44 fun x69 =>
                    Q (.bool ((x69 : Int) == s3.1)) h_61)) (0, 0) h_57)))) 0 h_5)))
theorem F4_eq : (fun (acts0a : Option Addr) (acts0l : Nat) (acts0c : Nat) (h : Heap) (Q : Value → Heap → Prop) => fnPT Try.prog Try.f4 (fun i => bif Nat.beq i 0 then annOne 9 (codI .i64) else bif Nat.beq i 3 then annCons 16 (codI .i64) (annOne 17 (codI .i64)) else annNil) (fun _ => []) (fun i => bif Nat.beq i 27 then some ⟨[0, 0, 0, 0, 12, 28, 0, 64, 252, 511, 1023], 1024⟩ else none) [.slice acts0a acts0l acts0c] h Q) = F4 := by kernel_rfl
theorem F4_ok {acts0a : Option Addr} {acts0l : Nat} {acts0c : Nat} {h : Heap} {Q : Value → Heap → Prop} (H : F4 acts0a acts0l acts0c h Q) : CallsH Try.prog 4 [.slice acts0a acts0l acts0c] h Q :=
  callsH_of (ann := fun i => bif Nat.beq i 0 then annOne 9 (codI .i64) else bif Nat.beq i 3 then annCons 16 (codI .i64) (annOne 17 (codI .i64)) else annNil) (tys := fun _ => []) (pl := fun i => bif Nat.beq i 27 then some ⟨[0, 0, 0, 0, 12, 28, 0, 64, 252, 511, 1023], 1024⟩ else none) Try.func4 (by kernel_rfl) (by have e := F4_eq; exact (congrFun (congrFun (congrFun (congrFun (congrFun (e) acts0a) acts0l) acts0c) h) Q).symm ▸ H)

/-- headgate/headgatelaw06.FsSafe -/
def F5 (first0 : ByteArray) (more0 : ByteArray) (picks0a : Option Addr) (picks0l : Nat) (picks0c : Nat) (fuse0 : Int) (h : Heap) (Q : Value → Heap → Prop) : Prop :=
  CallsH Try.prog 14 [] h fun r0 h_0 =>
  DB r0 fun x0 =>
  (bif !x0 then
    Q (.bool false) h_0
  else
    (bif decide (((IntKind.wrap .i64 (((first0 : ByteArray).size : Int) + ((more0 : ByteArray).size : Int))) : Int) > 4000) then
      Q (.bool true) h_0
    else
      (bif decide (((picks0l : Int) : Int) > 100) then
        Q (.bool true) h_0
      else
        CallsH Try.prog 15 [.int .i64 1048576] h_0 fun r1 h_1 =>
        ∃ (x1 : Option Addr), ∃ (x2 : Int), r1 = .tuple #[.pointer x1, .int .i64 x2] ∧
        CallsH Try.prog 16 [.pointer x1, .string ⟨#[100]⟩] h_1 fun r2 h_2 =>
        DI .i64 r2 fun x3 =>
        CallsH Try.prog 17 [.pointer x1, .string ⟨#[100]⟩, .string ⟨#[97]⟩] h_2 fun r3 h_3 =>
        DI .i64 r3 fun x4 =>
        RunH Try.prog (Go.convert 9 31 (.string first0)) h_3 fun r4 h_4 =>
        DSl r4 fun x5a x5l x5c =>
        CallsH Try.prog 18 [.pointer x1, .string ⟨#[100]⟩, .string ⟨#[97]⟩, .slice x5a x5l x5c] h_4 fun r5 h_5 =>
        DI .i64 r5 fun x6 =>
        CallsH Try.prog 19 [.pointer x1, .string ⟨#[100]⟩, .string ⟨#[97]⟩] h_5 fun r6 h_6 =>
        DI .i64 r6 fun x7 =>
        CallsH Try.prog 20 [.pointer x1, .string ⟨#[100]⟩] h_6 fun r7 h_7 =>
        DI .i64 r7 fun x8 =>
        (4 : Int) ≠ 0 ∧
        CallsH Try.prog 21 [.pointer x1, .int .i64 (IntKind.wrap .i64 (Int.tmod fuse0 4))] h_7 fun r8 h_8 =>
        DI .i64 r8 fun x9 =>
        RunH Try.prog (Go.convert 9 31 (.string more0)) h_8 fun r9 h_9 =>
        DSl r9 fun x10a x10l x10c =>
        CallsH Try.prog 18 [.pointer x1, .string ⟨#[100]⟩, .string ⟨#[97]⟩, .slice x10a x10l x10c] h_9 fun r10 h_10 =>
        DI .i64 r10 fun x11 =>
        CallsH Try.prog 22 [.pointer x1, .string ⟨#[100]⟩, .string ⟨#[97]⟩, .string ⟨#[98]⟩] h_10 fun r11 h_11 =>
        DI .i64 r11 fun x12 =>
        CallsH Try.prog 17 [.pointer x1, .string ⟨#[100]⟩, .string ⟨#[97]⟩] h_11 fun r12 h_12 =>
        DI .i64 r12 fun x13 =>
        CallsH Try.prog 24 [.pointer x1, .slice picks0a picks0l picks0c] h_12 fun r13 h_13 =>
        DI .i64 r13 fun x14 =>
        (bif (x14 : Int) != 0 then
          Q (.bool false) h_13
        else
          CallsH Try.prog 30 [.pointer x1, .string ⟨#[100]⟩] h_13 fun r14 h_14 =>
          ∃ (x15a : Option Addr), ∃ (x15l : Nat), ∃ (x15c : Nat), ∃ (x16 : Int), r14 = .tuple #[.slice x15a x15l x15c, .int .i64 x16] ∧
          (bif (x16 : Int) != 0 then
            Q (.bool false) h_14
          else
            (bif decide (((x15l : Int) : Int) < 1) then
              Q (.bool false) h_14
            else
              (bif decide (((x15l : Int) : Int) > 2) then
                Q (.bool false) h_14
              else
                IdxA x15a x15l (IntKind.wrap .i64 ((x15l : Int) - 1)) 1 fun a0 =>
                Ld h_14 a0 fun v0 => DS v0 fun x17 =>
                CallsH Try.prog 25 [.pointer x1, .string ⟨#[100]⟩, .string x17] h_14 fun r15 h_15 =>
                ∃ (x18a : Option Addr), ∃ (x18l : Nat), ∃ (x18c : Nat), ∃ (x19 : Int), r15 = .tuple #[.slice x18a x18l x18c, .int .i64 x19] ∧
                (first0 : ByteArray).size + (more0 : ByteArray).size ≤ 9223372036854775807 ∧
                (bif (x19 : Int) == 0 then
                  (bif decide (((x18l : Int) : Int) ≥ ((first0 : ByteArray).size : Int)) then
                    (bif decide (((x18l : Int) : Int) ≤ ((first0 ++ more0 : ByteArray).size : Int)) then
                      ∃ bs0 : ByteArray, BytesIn h_15 x18a x18l bs0 ∧
                      SlS (first0 ++ more0) 0 (x18l : Int) fun s0 =>
                      (bif strEq bs0 s0 then
                        ∃ r17, (CallsH Try.prog 32 [.pointer x1] h_15 fun r16 h_16 =>
                        r16 = r17 ∧ h_16 = h_15) ∧
                        DB r17 fun x20 =>
                        Q (.bool x20) h_15
                      else
                        Q (.bool false) h_15)
                    else
                      Q (.bool false) h_15)
                  else
                    Q (.bool false) h_15)
                else
                  Q (.bool false) h_15))))))))
theorem F5_eq : (fun (first0 : ByteArray) (more0 : ByteArray) (picks0a : Option Addr) (picks0l : Nat) (picks0c : Nat) (fuse0 : Int) (h : Heap) (Q : Value → Heap → Prop) => fnPT Try.prog Try.f5 (fun _ => annNil) (fun _ => []) (fun _ => none) [.string first0, .string more0, .slice picks0a picks0l picks0c, .int .u8 fuse0] h Q) = F5 := by kernel_rfl
theorem F5_ok {first0 : ByteArray} {more0 : ByteArray} {picks0a : Option Addr} {picks0l : Nat} {picks0c : Nat} {fuse0 : Int} {h : Heap} {Q : Value → Heap → Prop} (H : F5 first0 more0 picks0a picks0l picks0c fuse0 h Q) : CallsH Try.prog 5 [.string first0, .string more0, .slice picks0a picks0l picks0c, .int .u8 fuse0] h Q :=
  callsH_of (ann := fun _ => annNil) (tys := fun _ => []) (pl := fun _ => none) Try.func5 (by kernel_rfl) (by have e := F5_eq; exact (congrFun (congrFun (congrFun (congrFun (congrFun (congrFun (congrFun (congrFun (e) first0) more0) picks0a) picks0l) picks0c) fuse0) h) Q).symm ▸ H)

/-- headgate/headgatelaw06.FsPlays -/
def F6 (room0 : Int) (acts0a : Option Addr) (acts0l : Nat) (acts0c : Nat) (h : Heap) (Q : Value → Heap → Prop) : Prop :=
  CallsH Try.prog 14 [] h fun r0 h_0 =>
  DB r0 fun x0 =>
  (bif !x0 then
    Q (.bool false) h_0
  else
    CallsH Try.prog 15 [.int .i64 room0] h_0 fun r1 h_1 =>
    ∃ (x1 : Option Addr), ∃ (x2 : Int), r1 = .tuple #[.pointer x1, .int .i64 x2] ∧
    CallsH Try.prog 33 [.int .i64 room0] h_1 fun r2 h_2 =>
    ∃ (x3 : Option Addr), ∃ (x4 : Int), r2 = .tuple #[.pointer x3, .int .i64 x4] ∧
    (bif (x2 : Int) != x4 then
      Q (.bool false) h_2
    else
      (bif !(((x1).isNone) == ((x4 : Int) != 0)) then
        Q (.bool false) h_2
      else
        (bif (x1).isNone then
          Q (.bool true) h_2
        else
          CallsH Try.prog 26 [.slice acts0a acts0l acts0c] h_2 fun r3 h_3 =>
          DB r3 fun x5 =>
          (bif x5 then
            Q (.bool true) h_3
          else
            LoopH (fun again0 (s0 : Int) h_4 =>
              (bif decide ((s0 : Int) < (acts0l : Int)) then
                (bif decide ((s0 : Int) < 200) then
                  IdxA acts0a acts0l s0 7 fun a0 =>
                  Ld h_4 (a0.add 0) fun c0 =>
                  Ld h_4 (a0.add 1) fun c1 =>
                  Ld h_4 (a0.add 2) fun c2 =>
                  Ld h_4 (a0.add 3) fun c3 =>
                  Ld h_4 (a0.add 4) fun c4 =>
                  Ld h_4 (a0.add 5) fun c5 =>
                  Ld h_4 (a0.add 6) fun c6 =>
                  ∃ (x6 : Int), ∃ (x7 : ByteArray), ∃ (x8 : ByteArray), ∃ (x9 : ByteArray), ∃ (x10 : Int), ∃ (x11 : Int), ∃ (x12a : Option Addr), ∃ (x12l : Nat), ∃ (x12c : Nat), (Value.agg #[c0, c1, c2, c3, c4, c5, c6]) = .agg #[.int .i64 x6, .string x7, .string x8, .string x9, .int .i64 x10, .int .u8 x11, .slice x12a x12l x12c] ∧
                  ∃ r5, (CallsH Try.prog 34 [.pointer x1, .agg #[.int .i64 x6, .string x7, .string x8, .string x9, .int .i64 x10, .int .u8 x11, .slice x12a x12l x12c]] h_4 fun r4 h_5 =>
                  r4 = r5 ∧ h_5 = h_4) ∧
                  DI .i64 r5 fun x13 =>
                  IdxA acts0a acts0l s0 7 fun a1 =>
                  Ld h_4 (a1.add 0) fun c7 =>
                  Ld h_4 (a1.add 1) fun c8 =>
                  Ld h_4 (a1.add 2) fun c9 =>
                  Ld h_4 (a1.add 3) fun c10 =>
                  Ld h_4 (a1.add 4) fun c11 =>
                  Ld h_4 (a1.add 5) fun c12 =>
                  Ld h_4 (a1.add 6) fun c13 =>
                  ∃ (x14 : Int), ∃ (x15 : ByteArray), ∃ (x16 : ByteArray), ∃ (x17 : ByteArray), ∃ (x18 : Int), ∃ (x19 : Int), ∃ (x20a : Option Addr), ∃ (x20l : Nat), ∃ (x20c : Nat), (Value.agg #[c7, c8, c9, c10, c11, c12, c13]) = .agg #[.int .i64 x14, .string x15, .string x16, .string x17, .int .i64 x18, .int .u8 x19, .slice x20a x20l x20c] ∧
                  ∃ r7, (CallsH Try.prog 35 [.pointer x3, .agg #[.int .i64 x14, .string x15, .string x16, .string x17, .int .i64 x18, .int .u8 x19, .slice x20a x20l x20c]] h_4 fun r6 h_6 =>
                  r6 = r7 ∧ h_6 = h_4) ∧
                  DI .i64 r7 fun x21 =>
                  (bif (x13 : Int) != x21 then
                    Q (.bool false) h_4
                  else
                    ∃ r9, (CallsH Try.prog 36 [.pointer x1, .pointer x3] h_4 fun r8 h_7 =>
                    r8 = r9 ∧ h_7 = h_4) ∧
                    DB r9 fun x22 =>
                    (bif !x22 then
                      Q (.bool false) h_4
                    else
                      again0 (IntKind.wrap .i64 (s0 + 1)) h_4))
                else
                  Q (.bool true) h_4)
              else
                Q (.bool true) h_4)) 0 h_3)))))
theorem F6_eq : (fun (room0 : Int) (acts0a : Option Addr) (acts0l : Nat) (acts0c : Nat) (h : Heap) (Q : Value → Heap → Prop) => fnPT Try.prog Try.f6 (fun i => bif Nat.beq i 0 then annOne 9 (codI .i64) else annNil) (fun _ => []) (fun _ => none) [.int .i64 room0, .slice acts0a acts0l acts0c] h Q) = F6 := by kernel_rfl
theorem F6_ok {room0 : Int} {acts0a : Option Addr} {acts0l : Nat} {acts0c : Nat} {h : Heap} {Q : Value → Heap → Prop} (H : F6 room0 acts0a acts0l acts0c h Q) : CallsH Try.prog 6 [.int .i64 room0, .slice acts0a acts0l acts0c] h Q :=
  callsH_of (ann := fun i => bif Nat.beq i 0 then annOne 9 (codI .i64) else annNil) (tys := fun _ => []) (pl := fun _ => none) Try.func6 (by kernel_rfl) (by have e := F6_eq; exact (congrFun (congrFun (congrFun (congrFun (congrFun (congrFun (e) room0) acts0a) acts0l) acts0c) h) Q).symm ▸ H)

/-- headgate/headgatelaw06.FsNil -/
def F7 (a0 : Int) (a1 : ByteArray) (a2 : ByteArray) (a3 : ByteArray) (a4 : Int) (a5 : Int) (a6a : Option Addr) (a6l : Nat) (a6c : Nat) (h : Heap) (Q : Value → Heap → Prop) : Prop :=
  Al h (.cells #[.int .i64 a0, .string a1, .string a2, .string a3, .int .i64 a4, .int .u8 a5, .slice a6a a6l a6c] 45) fun b0 h_0 =>
  CallsH Try.prog 14 [] h_0 fun r1 h_1 =>
  DB r1 fun x0 =>
  (bif !x0 then
    Q (.bool false) h_1
  else
    Ld h_1 ((Addr.mk b0 0 none).add 6) fun v0 => DSl v0 fun x1a x1l x1c =>
    (bif decide (((x1l : Int) : Int) > 1000) then
      Q (.bool true) h_1
    else
      Ld h_1 ((Addr.mk b0 0 none).add 1) fun v1 => DS v1 fun x2 =>
      Ld h_1 ((Addr.mk b0 0 none).add 2) fun v2 => DS v2 fun x3 =>
      CallsH Try.prog 25 [.pointer none, .string x2, .string x3] h_1 fun r2 h_2 =>
      ∃ (x4a : Option Addr), ∃ (x4l : Nat), ∃ (x4c : Nat), ∃ (x5 : Int), r2 = .tuple #[.slice x4a x4l x4c, .int .i64 x5] ∧
      Ld h_2 ((Addr.mk b0 0 none).add 1) fun v3 => DS v3 fun x6 =>
      CallsH Try.prog 30 [.pointer none, .string x6] h_2 fun r3 h_3 =>
      ∃ (x7a : Option Addr), ∃ (x7l : Nat), ∃ (x7c : Nat), ∃ (x8 : Int), r3 = .tuple #[.slice x7a x7l x7c, .int .i64 x8] ∧
      Ld h_3 ((Addr.mk b0 0 none).add 0) fun v4 => DI .i64 v4 fun x9 =>
      (bif decide ((x9 : Int) ≥ 0) then
        Ld h_3 ((Addr.mk b0 0 none).add 0) fun v5 => DI .i64 v5 fun x10 =>
        (bif !(decide ((x10 : Int) ≤ 11)) then
          (bif (x5 : Int) == 1 then
            (bif (x8 : Int) == 1 then
              CallsH Try.prog 37 [.pointer none] h_3 fun r4 h_4 =>
              DSl r4 fun x11a x11l x11c =>
              (bif ((x11l : Int) : Int) == 0 then
                CallsH Try.prog 31 [.pointer none] h_4 fun r5 h_5 =>
                DI .i64 r5 fun x12 =>
                (bif (x12 : Int) == 0 then
                  CallsH Try.prog 23 [.pointer none] h_5 fun r6 h_6 =>
                  DI .i64 r6 fun x13 =>
                  (bif (x13 : Int) == 0 then
                    CallsH Try.prog 32 [.pointer none] h_6 fun r7 h_7 =>
                    DB r7 fun x14 =>
                    Q (.bool (!x14)) h_7
                  else
                    Q (.bool false) h_6)
                else
                  Q (.bool false) h_5)
              else
                Q (.bool false) h_4)
            else
              Q (.bool false) h_3)
          else
            Q (.bool false) h_3)
        else
          Ld h_3 ((Addr.mk b0 0 none).add 0) fun c0 =>
          Ld h_3 ((Addr.mk b0 0 none).add 1) fun c1 =>
          Ld h_3 ((Addr.mk b0 0 none).add 2) fun c2 =>
          Ld h_3 ((Addr.mk b0 0 none).add 3) fun c3 =>
          Ld h_3 ((Addr.mk b0 0 none).add 4) fun c4 =>
          Ld h_3 ((Addr.mk b0 0 none).add 5) fun c5 =>
          Ld h_3 ((Addr.mk b0 0 none).add 6) fun c6 =>
          ∃ (x15 : Int), ∃ (x16 : ByteArray), ∃ (x17 : ByteArray), ∃ (x18 : ByteArray), ∃ (x19 : Int), ∃ (x20 : Int), ∃ (x21a : Option Addr), ∃ (x21l : Nat), ∃ (x21c : Nat), (Value.agg #[c0, c1, c2, c3, c4, c5, c6]) = .agg #[.int .i64 x15, .string x16, .string x17, .string x18, .int .i64 x19, .int .u8 x20, .slice x21a x21l x21c] ∧
          CallsH Try.prog 34 [.pointer none, .agg #[.int .i64 x15, .string x16, .string x17, .string x18, .int .i64 x19, .int .u8 x20, .slice x21a x21l x21c]] h_3 fun r8 h_8 =>
          DI .i64 r8 fun x22 =>
          (bif (x22 : Int) == 1 then
            (bif (x5 : Int) == 1 then
              (bif (x8 : Int) == 1 then
                CallsH Try.prog 37 [.pointer none] h_8 fun r9 h_9 =>
                DSl r9 fun x23a x23l x23c =>
                (bif ((x23l : Int) : Int) == 0 then
                  CallsH Try.prog 31 [.pointer none] h_9 fun r10 h_10 =>
                  DI .i64 r10 fun x24 =>
                  (bif (x24 : Int) == 0 then
                    CallsH Try.prog 23 [.pointer none] h_10 fun r11 h_11 =>
                    DI .i64 r11 fun x25 =>
                    (bif (x25 : Int) == 0 then
                      CallsH Try.prog 32 [.pointer none] h_11 fun r12 h_12 =>
                      DB r12 fun x26 =>
                      Q (.bool (!x26)) h_12
                    else
                      Q (.bool false) h_11)
                  else
                    Q (.bool false) h_10)
                else
                  Q (.bool false) h_9)
              else
                Q (.bool false) h_8)
            else
              Q (.bool false) h_8)
          else
            Q (.bool false) h_8))
      else
        (bif (x5 : Int) == 1 then
          (bif (x8 : Int) == 1 then
            CallsH Try.prog 37 [.pointer none] h_3 fun r13 h_13 =>
            DSl r13 fun x27a x27l x27c =>
            (bif ((x27l : Int) : Int) == 0 then
              CallsH Try.prog 31 [.pointer none] h_13 fun r14 h_14 =>
              DI .i64 r14 fun x28 =>
              (bif (x28 : Int) == 0 then
                CallsH Try.prog 23 [.pointer none] h_14 fun r15 h_15 =>
                DI .i64 r15 fun x29 =>
                (bif (x29 : Int) == 0 then
                  CallsH Try.prog 32 [.pointer none] h_15 fun r16 h_16 =>
                  DB r16 fun x30 =>
                  Q (.bool (!x30)) h_16
                else
                  Q (.bool false) h_15)
              else
                Q (.bool false) h_14)
            else
              Q (.bool false) h_13)
          else
            Q (.bool false) h_3)
        else
          Q (.bool false) h_3))))
theorem F7_eq : (fun (a0 : Int) (a1 : ByteArray) (a2 : ByteArray) (a3 : ByteArray) (a4 : Int) (a5 : Int) (a6a : Option Addr) (a6l : Nat) (a6c : Nat) (h : Heap) (Q : Value → Heap → Prop) => fnPT Try.prog Try.f7 (fun _ => annNil) (fun _ => []) (fun _ => none) [.agg #[.int .i64 a0, .string a1, .string a2, .string a3, .int .i64 a4, .int .u8 a5, .slice a6a a6l a6c]] h Q) = F7 := by kernel_rfl
theorem F7_ok {a0 : Int} {a1 : ByteArray} {a2 : ByteArray} {a3 : ByteArray} {a4 : Int} {a5 : Int} {a6a : Option Addr} {a6l : Nat} {a6c : Nat} {h : Heap} {Q : Value → Heap → Prop} (H : F7 a0 a1 a2 a3 a4 a5 a6a a6l a6c h Q) : CallsH Try.prog 7 [.agg #[.int .i64 a0, .string a1, .string a2, .string a3, .int .i64 a4, .int .u8 a5, .slice a6a a6l a6c]] h Q :=
  callsH_of (ann := fun _ => annNil) (tys := fun _ => []) (pl := fun _ => none) Try.func7 (by kernel_rfl) (by have e := F7_eq; exact (congrFun (congrFun (congrFun (congrFun (congrFun (congrFun (congrFun (congrFun (congrFun (congrFun (congrFun (e) a0) a1) a2) a3) a4) a5) a6a) a6l) a6c) h) Q).symm ▸ H)

/-- headgate/headgatelaw07.PlaceSorts -/
def F8 (a0 : Int) (b0 : Int) (h : Heap) (Q : Value → Heap → Prop) : Prop :=
  CallsH Try.prog 38 [] h fun r0 h_0 =>
  DB r0 fun x0 =>
  (bif !x0 then
    Q (.bool false) h_0
  else
    (bif decide ((a0 : Int) < 0) then
      Q (.bool true) h_0
    else
      (bif decide ((b0 : Int) < 0) then
        Q (.bool true) h_0
      else
        CallsH Try.prog 39 [.int .i64 a0] h_0 fun r1 h_1 =>
        DS r1 fun x1 =>
        CallsH Try.prog 39 [.int .i64 b0] h_1 fun r2 h_2 =>
        DS r2 fun x2 =>
        Q (.bool ((strLt x1 x2) == (decide ((a0 : Int) < b0)))) h_2)))
theorem F8_eq : (fun (a0 : Int) (b0 : Int) (h : Heap) (Q : Value → Heap → Prop) => fnPT Try.prog Try.f8 (fun _ => annNil) (fun _ => []) (fun _ => none) [.int .i64 a0, .int .i64 b0] h Q) = F8 := by kernel_rfl
theorem F8_ok {a0 : Int} {b0 : Int} {h : Heap} {Q : Value → Heap → Prop} (H : F8 a0 b0 h Q) : CallsH Try.prog 8 [.int .i64 a0, .int .i64 b0] h Q :=
  callsH_of (ann := fun _ => annNil) (tys := fun _ => []) (pl := fun _ => none) Try.func8 (by kernel_rfl) (by have e := F8_eq; exact (congrFun (congrFun (congrFun (congrFun (e) a0) b0) h) Q).symm ▸ H)

/-- headgate/headgatelaw07.PlaceNil -/
def F9 (dir0 : ByteArray) (name0 : ByteArray) (b0 : ByteArray) (h : Heap) (Q : Value → Heap → Prop) : Prop :=
  CallsH Try.prog 38 [] h fun r0 h_0 =>
  DB r0 fun x0 =>
  (bif !x0 then
    Q (.bool false) h_0
  else
    (bif decide ((((b0 : ByteArray).size : Int) : Int) > 4000) then
      Q (.bool true) h_0
    else
      CallsH Try.prog 40 [.pointer none, .string dir0, .string name0] h_0 fun r1 h_1 =>
      ∃ (x1a : Option Addr), ∃ (x1l : Nat), ∃ (x1c : Nat), ∃ (x2 : Int), r1 = .tuple #[.slice x1a x1l x1c, .int .i64 x2] ∧
      CallsH Try.prog 41 [.pointer none, .string dir0] h_1 fun r2 h_2 =>
      ∃ (x3 : Int), ∃ (x4 : Int), r2 = .tuple #[.int .i64 x3, .int .i64 x4] ∧
      CallsH Try.prog 42 [.pointer none, .string dir0] h_2 fun r3 h_3 =>
      ∃ (x5a : Option Addr), ∃ (x5l : Nat), ∃ (x5c : Nat), ∃ (x6 : Int), r3 = .tuple #[.slice x5a x5l x5c, .int .i64 x6] ∧
      RunH Try.prog (Go.convert 9 31 (.string b0)) h_3 fun r4 h_4 =>
      DSl r4 fun x7a x7l x7c =>
      CallsH Try.prog 43 [.pointer none, .string dir0, .string name0, .slice x7a x7l x7c] h_4 fun r5 h_5 =>
      DI .i64 r5 fun x8 =>
      (bif (x8 : Int) == 1 then
        RunH Try.prog (Go.convert 9 31 (.string b0)) h_5 fun r6 h_6 =>
        DSl r6 fun x9a x9l x9c =>
        CallsH Try.prog 44 [.pointer none, .string dir0, .string name0, .slice x9a x9l x9c] h_6 fun r7 h_7 =>
        DI .i64 r7 fun x10 =>
        (bif (x10 : Int) == 1 then
          (bif (x2 : Int) == 1 then
            (bif (x4 : Int) == 1 then
              (bif (x3 : Int) == 0 then
                (bif (x6 : Int) == 1 then
                  Q (.bool (((x5l : Int) : Int) == 0)) h_7
                else
                  Q (.bool false) h_7)
              else
                Q (.bool false) h_7)
            else
              Q (.bool false) h_7)
          else
            Q (.bool false) h_7)
        else
          Q (.bool false) h_7)
      else
        Q (.bool false) h_5)))
theorem F9_eq : (fun (dir0 : ByteArray) (name0 : ByteArray) (b0 : ByteArray) (h : Heap) (Q : Value → Heap → Prop) => fnPT Try.prog Try.f9 (fun _ => annNil) (fun _ => []) (fun _ => none) [.string dir0, .string name0, .string b0] h Q) = F9 := by kernel_rfl
theorem F9_ok {dir0 : ByteArray} {name0 : ByteArray} {b0 : ByteArray} {h : Heap} {Q : Value → Heap → Prop} (H : F9 dir0 name0 b0 h Q) : CallsH Try.prog 9 [.string dir0, .string name0, .string b0] h Q :=
  callsH_of (ann := fun _ => annNil) (tys := fun _ => []) (pl := fun _ => none) Try.func9 (by kernel_rfl) (by have e := F9_eq; exact (congrFun (congrFun (congrFun (congrFun (congrFun (e) dir0) name0) b0) h) Q).symm ▸ H)

/-- headgate/headgatelaw07.PlaceHex -/
def F10 (n0 : Int) (s0 : ByteArray) (h : Heap) (Q : Value → Heap → Prop) : Prop :=
  CallsH Try.prog 38 [] h fun r0 h_0 =>
  DB r0 fun x0 =>
  (bif !x0 then
    Q (.bool false) h_0
  else
    (bif decide ((((s0 : ByteArray).size : Int) : Int) > 4000) then
      Q (.bool true) h_0
    else
      CallsH Try.prog 45 [.string s0] h_0 fun r1 h_1 =>
      ∃ (x1 : Int), ∃ (x2 : Bool), r1 = .tuple #[.int .i64 x1, .bool x2] ∧
      CallsH Try.prog 46 [.string s0] h_1 fun r2 h_2 =>
      ∃ (x3 : Int), ∃ (x4 : Bool), r2 = .tuple #[.int .i64 x3, .bool x4] ∧
      (bif (x1 : Int) != x3 then
        Q (.bool false) h_2
      else
        (bif !(x2 == x4) then
          Q (.bool false) h_2
        else
          CallsH Try.prog 39 [.int .i64 n0] h_2 fun r3 h_3 =>
          DS r3 fun x5 =>
          CallsH Try.prog 47 [.int .i64 n0] h_3 fun r4 h_4 =>
          DS r4 fun x6 =>
          (bif !strEq x5 x6 then
            Q (.bool false) h_4
          else
            CallsH Try.prog 39 [.int .i64 n0] h_4 fun r5 h_5 =>
            DS r5 fun x7 =>
            CallsH Try.prog 45 [.string x7] h_5 fun r6 h_6 =>
            ∃ (x8 : Int), ∃ (x9 : Bool), r6 = .tuple #[.int .i64 x8, .bool x9] ∧
            (bif x9 == (decide ((n0 : Int) ≥ 0)) then
              (bif !x9 then
                Q (.bool true) h_6
              else
                Q (.bool ((x8 : Int) == n0)) h_6)
            else
              Q (.bool false) h_6))))))
theorem F10_eq : (fun (n0 : Int) (s0 : ByteArray) (h : Heap) (Q : Value → Heap → Prop) => fnPT Try.prog Try.f10 (fun _ => annNil) (fun _ => []) (fun _ => none) [.int .i64 n0, .string s0] h Q) = F10 := by kernel_rfl
theorem F10_ok {n0 : Int} {s0 : ByteArray} {h : Heap} {Q : Value → Heap → Prop} (H : F10 n0 s0 h Q) : CallsH Try.prog 10 [.int .i64 n0, .string s0] h Q :=
  callsH_of (ann := fun _ => annNil) (tys := fun _ => []) (pl := fun _ => none) Try.func10 (by kernel_rfl) (by have e := F10_eq; exact (congrFun (congrFun (congrFun (congrFun (e) n0) s0) h) Q).symm ▸ H)

/-- headgate/headgatelaw07.PlaceWhole -/
def F11 (elder0 : ByteArray) (newer0 : ByteArray) (fuse0 : Int) (picks0a : Option Addr) (picks0l : Nat) (picks0c : Nat) (h : Heap) (Q : Value → Heap → Prop) : Prop :=
  CallsH Try.prog 38 [] h fun r0 h_0 =>
  DB r0 fun x0 =>
  (bif !x0 then
    Q (.bool false) h_0
  else
    (bif decide (((IntKind.wrap .i64 (((elder0 : ByteArray).size : Int) + ((newer0 : ByteArray).size : Int))) : Int) > 4000) then
      Q (.bool true) h_0
    else
      (bif decide (((picks0l : Int) : Int) > 100) then
        Q (.bool true) h_0
      else
        CallsH Try.prog 15 [.int .i64 1048576] h_0 fun r1 h_1 =>
        ∃ (x1 : Option Addr), ∃ (x2 : Int), r1 = .tuple #[.pointer x1, .int .i64 x2] ∧
        CallsH Try.prog 16 [.pointer x1, .string ⟨#[100]⟩] h_1 fun r2 h_2 =>
        DI .i64 r2 fun x3 =>
        (bif (x3 : Int) != 0 then
          Q (.bool false) h_2
        else
          RunH Try.prog (Go.convert 9 31 (.string elder0)) h_2 fun r3 h_3 =>
          DSl r3 fun x4a x4l x4c =>
          CallsH Try.prog 43 [.pointer x1, .string ⟨#[100]⟩, .string ⟨#[97]⟩, .slice x4a x4l x4c] h_3 fun r4 h_4 =>
          DI .i64 r4 fun x5 =>
          (bif (x5 : Int) != 0 then
            Q (.bool false) h_4
          else
            (8 : Int) ≠ 0 ∧
            CallsH Try.prog 21 [.pointer x1, .int .i64 (IntKind.wrap .i64 (Int.tmod fuse0 8))] h_4 fun r5 h_5 =>
            DI .i64 r5 fun x6 =>
            RunH Try.prog (Go.convert 9 31 (.string newer0)) h_5 fun r6 h_6 =>
            DSl r6 fun x7a x7l x7c =>
            CallsH Try.prog 43 [.pointer x1, .string ⟨#[100]⟩, .string ⟨#[97]⟩, .slice x7a x7l x7c] h_6 fun r7 h_7 =>
            DI .i64 r7 fun done0 =>
            CallsH Try.prog 24 [.pointer x1, .slice picks0a picks0l picks0c] h_7 fun r8 h_8 =>
            DI .i64 r8 fun x8 =>
            CallsH Try.prog 40 [.pointer x1, .string ⟨#[100]⟩, .string ⟨#[97]⟩] h_8 fun r9 h_9 =>
            ∃ (x9a : Option Addr), ∃ (x9l : Nat), ∃ (x9c : Nat), ∃ (x10 : Int), r9 = .tuple #[.slice x9a x9l x9c, .int .i64 x10] ∧
            (bif (x10 : Int) != 0 then
              Q (.bool false) h_9
            else
              ∃ bs0 : ByteArray, BytesIn h_9 x9a x9l bs0 ∧
              (bif !strEq bs0 elder0 then
                ∃ bs1 : ByteArray, BytesIn h_9 x9a x9l bs1 ∧
                (bif !strEq bs1 newer0 then
                  Q (.bool false) h_9
                else
                  (bif (done0 : Int) == 0 then
                    ∃ bs2 : ByteArray, BytesIn h_9 x9a x9l bs2 ∧
                    (bif !strEq bs2 newer0 then
                      Q (.bool false) h_9
                    else
                      CallsH Try.prog 42 [.pointer x1, .string ⟨#[100]⟩] h_9 fun r10 h_10 =>
                      ∃ (x11a : Option Addr), ∃ (x11l : Nat), ∃ (x11c : Nat), ∃ (x12 : Int), r10 = .tuple #[.slice x11a x11l x11c, .int .i64 x12] ∧
                      (bif (x12 : Int) == 0 then
                        (bif ((x11l : Int) : Int) == 1 then
                          IdxA x11a x11l 0 1 fun a0 =>
                          Ld h_10 a0 fun v0 => DS v0 fun x13 =>
                          (bif strEq x13 ⟨#[97]⟩ then
                            (8 : Int) ≠ 0 ∧
                            Q (.bool (((done0 : Int) == 0) == (decide (((Int.tmod fuse0 8) : Int) ≥ 5)))) h_10
                          else
                            Q (.bool false) h_10)
                        else
                          Q (.bool false) h_10)
                      else
                        Q (.bool false) h_10))
                  else
                    CallsH Try.prog 42 [.pointer x1, .string ⟨#[100]⟩] h_9 fun r11 h_11 =>
                    ∃ (x14a : Option Addr), ∃ (x14l : Nat), ∃ (x14c : Nat), ∃ (x15 : Int), r11 = .tuple #[.slice x14a x14l x14c, .int .i64 x15] ∧
                    (bif (x15 : Int) == 0 then
                      (bif ((x14l : Int) : Int) == 1 then
                        IdxA x14a x14l 0 1 fun a1 =>
                        Ld h_11 a1 fun v1 => DS v1 fun x16 =>
                        (bif strEq x16 ⟨#[97]⟩ then
                          (8 : Int) ≠ 0 ∧
                          Q (.bool (((done0 : Int) == 0) == (decide (((Int.tmod fuse0 8) : Int) ≥ 5)))) h_11
                        else
                          Q (.bool false) h_11)
                      else
                        Q (.bool false) h_11)
                    else
                      Q (.bool false) h_11)))
              else
                (bif (done0 : Int) == 0 then
                  ∃ bs3 : ByteArray, BytesIn h_9 x9a x9l bs3 ∧
                  (bif !strEq bs3 newer0 then
                    Q (.bool false) h_9
                  else
                    CallsH Try.prog 42 [.pointer x1, .string ⟨#[100]⟩] h_9 fun r12 h_12 =>
                    ∃ (x17a : Option Addr), ∃ (x17l : Nat), ∃ (x17c : Nat), ∃ (x18 : Int), r12 = .tuple #[.slice x17a x17l x17c, .int .i64 x18] ∧
                    (bif (x18 : Int) == 0 then
                      (bif ((x17l : Int) : Int) == 1 then
                        IdxA x17a x17l 0 1 fun a2 =>
                        Ld h_12 a2 fun v2 => DS v2 fun x19 =>
                        (bif strEq x19 ⟨#[97]⟩ then
                          (8 : Int) ≠ 0 ∧
                          Q (.bool (((done0 : Int) == 0) == (decide (((Int.tmod fuse0 8) : Int) ≥ 5)))) h_12
                        else
                          Q (.bool false) h_12)
                      else
                        Q (.bool false) h_12)
                    else
                      Q (.bool false) h_12))
                else
                  CallsH Try.prog 42 [.pointer x1, .string ⟨#[100]⟩] h_9 fun r13 h_13 =>
                  ∃ (x20a : Option Addr), ∃ (x20l : Nat), ∃ (x20c : Nat), ∃ (x21 : Int), r13 = .tuple #[.slice x20a x20l x20c, .int .i64 x21] ∧
                  (bif (x21 : Int) == 0 then
                    (bif ((x20l : Int) : Int) == 1 then
                      IdxA x20a x20l 0 1 fun a3 =>
                      Ld h_13 a3 fun v3 => DS v3 fun x22 =>
                      (bif strEq x22 ⟨#[97]⟩ then
                        (8 : Int) ≠ 0 ∧
                        Q (.bool (((done0 : Int) == 0) == (decide (((Int.tmod fuse0 8) : Int) ≥ 5)))) h_13
                      else
                        Q (.bool false) h_13)
                    else
                      Q (.bool false) h_13)
                  else
                    Q (.bool false) h_13)))))))))
theorem F11_eq : (fun (elder0 : ByteArray) (newer0 : ByteArray) (fuse0 : Int) (picks0a : Option Addr) (picks0l : Nat) (picks0c : Nat) (h : Heap) (Q : Value → Heap → Prop) => fnPT Try.prog Try.f11 (fun _ => annNil) (fun _ => []) (fun _ => none) [.string elder0, .string newer0, .int .u8 fuse0, .slice picks0a picks0l picks0c] h Q) = F11 := by kernel_rfl
theorem F11_ok {elder0 : ByteArray} {newer0 : ByteArray} {fuse0 : Int} {picks0a : Option Addr} {picks0l : Nat} {picks0c : Nat} {h : Heap} {Q : Value → Heap → Prop} (H : F11 elder0 newer0 fuse0 picks0a picks0l picks0c h Q) : CallsH Try.prog 11 [.string elder0, .string newer0, .int .u8 fuse0, .slice picks0a picks0l picks0c] h Q :=
  callsH_of (ann := fun _ => annNil) (tys := fun _ => []) (pl := fun _ => none) Try.func11 (by kernel_rfl) (by have e := F11_eq; exact (congrFun (congrFun (congrFun (congrFun (congrFun (congrFun (congrFun (congrFun (e) elder0) newer0) fuse0) picks0a) picks0l) picks0c) h) Q).symm ▸ H)

/-- headgate/headgatelaw10.SegmentParts -/
def F12 (recs0a : Option Addr) (recs0l : Nat) (recs0c : Nat) (a0 : Int) (b0 : Int) (from_0 : Int) (to0 : Int) (h : Heap) (Q : Value → Heap → Prop) : Prop :=
  CallsH Try.prog 48 [] h fun r0 h_0 =>
  DB r0 fun x0 =>
  (bif !x0 then
    Q (.bool false) h_0
  else
    LoopH (fun again0 (s0 : Sl × Sl × Int) h_1 =>
      (bif decide ((s0.2.2 : Int) < 2) then
        CallsH Try.prog 15 [.int .i64 1048576] h_1 fun r1 h_2 =>
        ∃ (x1 : Option Addr), ∃ (x2 : Int), r1 = .tuple #[.pointer x1, .int .i64 x2] ∧
        (bif (s0.2.2 : Int) == 1 then
          CallsH Try.prog 49 [.pointer x1, .string ⟨#[112]⟩, .int .i64 (IntKind.wrap .i64 (1 + (IntKind.wrap .i64 b0)))] h_2 fun r2 h_3 =>
          ∃ (x3 : Option Addr), ∃ (x4 : Int), r2 = .tuple #[.pointer x3, .int .i64 x4] ∧
          (bif (x4 : Int) != 0 then
            Q (.bool false) h_3
          else
            LoopH (fun again1 (s1 : Int × Int) h_4 =>
              (bif decide ((s1.2 : Int) < (recs0l : Int)) then
                (bif decide ((s1.2 : Int) < 30) then
                  IdxA recs0a recs0l s1.2 1 fun a1 =>
                  Ld h_4 a1 fun v0 => DS v0 fun x5 =>
                  (bif decide ((((x5 : ByteArray).size : Int) : Int) > 200) then
                    Q (.bool true) h_4
                  else
                    IdxA recs0a recs0l s1.2 1 fun a2 =>
                    Ld h_4 a2 fun v1 => DS v1 fun x6 =>
                    RunH Try.prog (Go.convert 9 31 (.string x6)) h_4 fun r3 h_5 =>
                    DSl r3 fun x7a x7l x7c =>
                    CallsH Try.prog 50 [.pointer x3, .slice x7a x7l x7c] h_5 fun r4 h_6 =>
                    ∃ (x8 : Int), ∃ (x9 : Int), r4 = .tuple #[.int .i64 x8, .int .i64 x9] ∧
                    (bif (x9 : Int) != 0 then
                      Q (.bool false) h_6
                    else
                      (bif (x8 : Int) != s1.1 then
                        Q (.bool false) h_6
                      else
                        again1 (IntKind.wrap .i64 (s1.1 + 1), IntKind.wrap .i64 (s1.2 + 1)) h_6)))
                else
                  ((IntKind.wrap .i64 (s1.1 + 1)) : Int) ≠ 0 ∧
                  ((IntKind.wrap .i64 ((IntKind.wrap .i64 (s1.1 - (Int.tmod (IntKind.wrap .i64 from_0) (IntKind.wrap .i64 (s1.1 + 1))))) + 1)) : Int) ≠ 0 ∧
                  CallsH Try.prog 51 [.pointer x3, .int .i64 (Int.tmod (IntKind.wrap .i64 from_0) (IntKind.wrap .i64 (s1.1 + 1))), .int .i64 (IntKind.wrap .i64 ((Int.tmod (IntKind.wrap .i64 from_0) (IntKind.wrap .i64 (s1.1 + 1))) + (Int.tmod (IntKind.wrap .i64 to0) (IntKind.wrap .i64 ((IntKind.wrap .i64 (s1.1 - (Int.tmod (IntKind.wrap .i64 from_0) (IntKind.wrap .i64 (s1.1 + 1))))) + 1)))))] h_4 fun r5 h_7 =>
                  ∃ (x10a : Option Addr), ∃ (x10l : Nat), ∃ (x10c : Nat), ∃ (x11 : Int), r5 = .tuple #[.slice x10a x10l x10c, .int .i64 x11] ∧
                  (bif (x11 : Int) != 0 then
                    Q (.bool false) h_7
                  else
                    (bif ((x10l : Int) : Int) != (IntKind.wrap .i64 ((IntKind.wrap .i64 ((Int.tmod (IntKind.wrap .i64 from_0) (IntKind.wrap .i64 (s1.1 + 1))) + (Int.tmod (IntKind.wrap .i64 to0) (IntKind.wrap .i64 ((IntKind.wrap .i64 (s1.1 - (Int.tmod (IntKind.wrap .i64 from_0) (IntKind.wrap .i64 (s1.1 + 1))))) + 1))))) - (Int.tmod (IntKind.wrap .i64 from_0) (IntKind.wrap .i64 (s1.1 + 1))))) then
                      Q (.bool false) h_7
                    else
                      LoopH (fun again2 (s2 : Sl × Sl × Int) h_8 =>
                        (bif decide ((s2.2.2 : Int) < (x10l : Int)) then
                          (bif (s0.2.2 : Int) == 0 then
                            IdxA x10a x10l s2.2.2 1 fun a3 =>
                            Ld h_8 a3 fun v2 => DSl v2 fun x12a x12l x12c =>
                            ∃ bs0 : ByteArray, BytesIn h_8 x12a x12l bs0 ∧
                            Al h_8 (.cells #[.string bs0] 9) fun b1 h_9 =>
                            RunH Try.prog (Builtin.append_ #[41, 41] 41 #[.slice s2.1.a s2.1.l s2.1.c, .slice (some (Addr.mk b1 0 none)) 1 1]) h_9 fun r7 h_10 =>
                            DSl r7 fun x13a x13l x13c =>
                            IdxA x10a x10l s2.2.2 1 fun a4 =>
                            Ld h_10 a4 fun v3 => DSl v3 fun x14a x14l x14c =>
                            ∃ bs1 : ByteArray, BytesIn h_10 x14a x14l bs1 ∧
                            IdxA recs0a recs0l (IntKind.wrap .i64 ((Int.tmod (IntKind.wrap .i64 from_0) (IntKind.wrap .i64 (s1.1 + 1))) + s2.2.2)) 1 fun a5 =>
                            Ld h_10 a5 fun v4 => DS v4 fun x15 =>
                            (bif !strEq bs1 x15 then
                              Q (.bool false) h_10
                            else
                              again2 (⟨x13a, x13l, x13c⟩, ⟨s2.2.1.a, s2.2.1.l, s2.2.1.c⟩, IntKind.wrap .i64 (s2.2.2 + 1)) h_10)
                          else
                            IdxA x10a x10l s2.2.2 1 fun a6 =>
                            Ld h_8 a6 fun v5 => DSl v5 fun x16a x16l x16c =>
                            ∃ bs2 : ByteArray, BytesIn h_8 x16a x16l bs2 ∧
                            Al h_8 (.cells #[.string bs2] 9) fun b2 h_11 =>
                            RunH Try.prog (Builtin.append_ #[41, 41] 41 #[.slice s2.2.1.a s2.2.1.l s2.2.1.c, .slice (some (Addr.mk b2 0 none)) 1 1]) h_11 fun r9 h_12 =>
                            DSl r9 fun y0a y0l y0c =>
                            IdxA x10a x10l s2.2.2 1 fun a7 =>
                            Ld h_12 a7 fun v6 => DSl v6 fun x17a x17l x17c =>
                            ∃ bs3 : ByteArray, BytesIn h_12 x17a x17l bs3 ∧
                            IdxA recs0a recs0l (IntKind.wrap .i64 ((Int.tmod (IntKind.wrap .i64 from_0) (IntKind.wrap .i64 (s1.1 + 1))) + s2.2.2)) 1 fun a8 =>
                            Ld h_12 a8 fun v7 => DS v7 fun x18 =>
                            (bif !strEq bs3 x18 then
                              Q (.bool false) h_12
                            else
                              again2 (⟨s2.1.a, s2.1.l, s2.1.c⟩, ⟨y0a, y0l, y0c⟩, IntKind.wrap .i64 (s2.2.2 + 1)) h_12))
                        else
                          again0 (⟨s2.1.a, s2.1.l, s2.1.c⟩, ⟨s2.2.1.a, s2.2.1.l, s2.2.1.c⟩, IntKind.wrap .i64 (s0.2.2 + 1)) h_8)) (⟨s0.1.a, s0.1.l, s0.1.c⟩, ⟨s0.2.1.a, s0.2.1.l, s0.2.1.c⟩, 0) h_7)))
              else
                ((IntKind.wrap .i64 (s1.1 + 1)) : Int) ≠ 0 ∧
                ((IntKind.wrap .i64 ((IntKind.wrap .i64 (s1.1 - (Int.tmod (IntKind.wrap .i64 from_0) (IntKind.wrap .i64 (s1.1 + 1))))) + 1)) : Int) ≠ 0 ∧
                CallsH Try.prog 51 [.pointer x3, .int .i64 (Int.tmod (IntKind.wrap .i64 from_0) (IntKind.wrap .i64 (s1.1 + 1))), .int .i64 (IntKind.wrap .i64 ((Int.tmod (IntKind.wrap .i64 from_0) (IntKind.wrap .i64 (s1.1 + 1))) + (Int.tmod (IntKind.wrap .i64 to0) (IntKind.wrap .i64 ((IntKind.wrap .i64 (s1.1 - (Int.tmod (IntKind.wrap .i64 from_0) (IntKind.wrap .i64 (s1.1 + 1))))) + 1)))))] h_4 fun r10 h_13 =>
                ∃ (x19a : Option Addr), ∃ (x19l : Nat), ∃ (x19c : Nat), ∃ (x20 : Int), r10 = .tuple #[.slice x19a x19l x19c, .int .i64 x20] ∧
                (bif (x20 : Int) != 0 then
                  Q (.bool false) h_13
                else
                  (bif ((x19l : Int) : Int) != (IntKind.wrap .i64 ((IntKind.wrap .i64 ((Int.tmod (IntKind.wrap .i64 from_0) (IntKind.wrap .i64 (s1.1 + 1))) + (Int.tmod (IntKind.wrap .i64 to0) (IntKind.wrap .i64 ((IntKind.wrap .i64 (s1.1 - (Int.tmod (IntKind.wrap .i64 from_0) (IntKind.wrap .i64 (s1.1 + 1))))) + 1))))) - (Int.tmod (IntKind.wrap .i64 from_0) (IntKind.wrap .i64 (s1.1 + 1))))) then
                    Q (.bool false) h_13
                  else
                    LoopH (fun again3 (s3 : Sl × Sl × Int) h_14 =>
                      (bif decide ((s3.2.2 : Int) < (x19l : Int)) then
                        (bif (s0.2.2 : Int) == 0 then
                          IdxA x19a x19l s3.2.2 1 fun a9 =>
                          Ld h_14 a9 fun v8 => DSl v8 fun x21a x21l x21c =>
                          ∃ bs4 : ByteArray, BytesIn h_14 x21a x21l bs4 ∧
                          Al h_14 (.cells #[.string bs4] 9) fun b3 h_15 =>
                          RunH Try.prog (Builtin.append_ #[41, 41] 41 #[.slice s3.1.a s3.1.l s3.1.c, .slice (some (Addr.mk b3 0 none)) 1 1]) h_15 fun r12 h_16 =>
                          DSl r12 fun x22a x22l x22c =>
                          IdxA x19a x19l s3.2.2 1 fun a10 =>
                          Ld h_16 a10 fun v9 => DSl v9 fun x23a x23l x23c =>
                          ∃ bs5 : ByteArray, BytesIn h_16 x23a x23l bs5 ∧
                          IdxA recs0a recs0l (IntKind.wrap .i64 ((Int.tmod (IntKind.wrap .i64 from_0) (IntKind.wrap .i64 (s1.1 + 1))) + s3.2.2)) 1 fun a11 =>
                          Ld h_16 a11 fun v10 => DS v10 fun x24 =>
                          (bif !strEq bs5 x24 then
                            Q (.bool false) h_16
                          else
                            again3 (⟨x22a, x22l, x22c⟩, ⟨s3.2.1.a, s3.2.1.l, s3.2.1.c⟩, IntKind.wrap .i64 (s3.2.2 + 1)) h_16)
                        else
                          IdxA x19a x19l s3.2.2 1 fun a12 =>
                          Ld h_14 a12 fun v11 => DSl v11 fun x25a x25l x25c =>
                          ∃ bs6 : ByteArray, BytesIn h_14 x25a x25l bs6 ∧
                          Al h_14 (.cells #[.string bs6] 9) fun b4 h_17 =>
                          RunH Try.prog (Builtin.append_ #[41, 41] 41 #[.slice s3.2.1.a s3.2.1.l s3.2.1.c, .slice (some (Addr.mk b4 0 none)) 1 1]) h_17 fun r14 h_18 =>
                          DSl r14 fun y1a y1l y1c =>
                          IdxA x19a x19l s3.2.2 1 fun a13 =>
                          Ld h_18 a13 fun v12 => DSl v12 fun x26a x26l x26c =>
                          ∃ bs7 : ByteArray, BytesIn h_18 x26a x26l bs7 ∧
                          IdxA recs0a recs0l (IntKind.wrap .i64 ((Int.tmod (IntKind.wrap .i64 from_0) (IntKind.wrap .i64 (s1.1 + 1))) + s3.2.2)) 1 fun a14 =>
                          Ld h_18 a14 fun v13 => DS v13 fun x27 =>
                          (bif !strEq bs7 x27 then
                            Q (.bool false) h_18
                          else
                            again3 (⟨s3.1.a, s3.1.l, s3.1.c⟩, ⟨y1a, y1l, y1c⟩, IntKind.wrap .i64 (s3.2.2 + 1)) h_18))
                      else
                        again0 (⟨s3.1.a, s3.1.l, s3.1.c⟩, ⟨s3.2.1.a, s3.2.1.l, s3.2.1.c⟩, IntKind.wrap .i64 (s0.2.2 + 1)) h_14)) (⟨s0.1.a, s0.1.l, s0.1.c⟩, ⟨s0.2.1.a, s0.2.1.l, s0.2.1.c⟩, 0) h_13)))) (0, 0) h_3)
        else
          CallsH Try.prog 49 [.pointer x1, .string ⟨#[112]⟩, .int .i64 (IntKind.wrap .i64 (1 + (IntKind.wrap .i64 a0)))] h_2 fun r15 h_19 =>
          ∃ (x28 : Option Addr), ∃ (x29 : Int), r15 = .tuple #[.pointer x28, .int .i64 x29] ∧
          (bif (x29 : Int) != 0 then
            Q (.bool false) h_19
          else
            LoopH (fun again4 (s4 : Int × Int) h_20 =>
              (bif decide ((s4.2 : Int) < (recs0l : Int)) then
                (bif decide ((s4.2 : Int) < 30) then
                  IdxA recs0a recs0l s4.2 1 fun a15 =>
                  Ld h_20 a15 fun v14 => DS v14 fun x30 =>
                  (bif decide ((((x30 : ByteArray).size : Int) : Int) > 200) then
                    Q (.bool true) h_20
                  else
                    IdxA recs0a recs0l s4.2 1 fun a16 =>
                    Ld h_20 a16 fun v15 => DS v15 fun x31 =>
                    RunH Try.prog (Go.convert 9 31 (.string x31)) h_20 fun r16 h_21 =>
                    DSl r16 fun x32a x32l x32c =>
                    CallsH Try.prog 50 [.pointer x28, .slice x32a x32l x32c] h_21 fun r17 h_22 =>
                    ∃ (x33 : Int), ∃ (x34 : Int), r17 = .tuple #[.int .i64 x33, .int .i64 x34] ∧
                    (bif (x34 : Int) != 0 then
                      Q (.bool false) h_22
                    else
                      (bif (x33 : Int) != s4.1 then
                        Q (.bool false) h_22
                      else
                        again4 (IntKind.wrap .i64 (s4.1 + 1), IntKind.wrap .i64 (s4.2 + 1)) h_22)))
                else
                  ((IntKind.wrap .i64 (s4.1 + 1)) : Int) ≠ 0 ∧
                  ((IntKind.wrap .i64 ((IntKind.wrap .i64 (s4.1 - (Int.tmod (IntKind.wrap .i64 from_0) (IntKind.wrap .i64 (s4.1 + 1))))) + 1)) : Int) ≠ 0 ∧
                  CallsH Try.prog 51 [.pointer x28, .int .i64 (Int.tmod (IntKind.wrap .i64 from_0) (IntKind.wrap .i64 (s4.1 + 1))), .int .i64 (IntKind.wrap .i64 ((Int.tmod (IntKind.wrap .i64 from_0) (IntKind.wrap .i64 (s4.1 + 1))) + (Int.tmod (IntKind.wrap .i64 to0) (IntKind.wrap .i64 ((IntKind.wrap .i64 (s4.1 - (Int.tmod (IntKind.wrap .i64 from_0) (IntKind.wrap .i64 (s4.1 + 1))))) + 1)))))] h_20 fun r18 h_23 =>
                  ∃ (x35a : Option Addr), ∃ (x35l : Nat), ∃ (x35c : Nat), ∃ (x36 : Int), r18 = .tuple #[.slice x35a x35l x35c, .int .i64 x36] ∧
                  (bif (x36 : Int) != 0 then
                    Q (.bool false) h_23
                  else
                    (bif ((x35l : Int) : Int) != (IntKind.wrap .i64 ((IntKind.wrap .i64 ((Int.tmod (IntKind.wrap .i64 from_0) (IntKind.wrap .i64 (s4.1 + 1))) + (Int.tmod (IntKind.wrap .i64 to0) (IntKind.wrap .i64 ((IntKind.wrap .i64 (s4.1 - (Int.tmod (IntKind.wrap .i64 from_0) (IntKind.wrap .i64 (s4.1 + 1))))) + 1))))) - (Int.tmod (IntKind.wrap .i64 from_0) (IntKind.wrap .i64 (s4.1 + 1))))) then
                      Q (.bool false) h_23
                    else
                      LoopH (fun again5 (s5 : Sl × Sl × Int) h_24 =>
                        (bif decide ((s5.2.2 : Int) < (x35l : Int)) then
                          (bif (s0.2.2 : Int) == 0 then
                            IdxA x35a x35l s5.2.2 1 fun a17 =>
                            Ld h_24 a17 fun v16 => DSl v16 fun x37a x37l x37c =>
                            ∃ bs8 : ByteArray, BytesIn h_24 x37a x37l bs8 ∧
                            Al h_24 (.cells #[.string bs8] 9) fun b5 h_25 =>
                            RunH Try.prog (Builtin.append_ #[41, 41] 41 #[.slice s5.1.a s5.1.l s5.1.c, .slice (some (Addr.mk b5 0 none)) 1 1]) h_25 fun r20 h_26 =>
                            DSl r20 fun x38a x38l x38c =>
                            IdxA x35a x35l s5.2.2 1 fun a18 =>
                            Ld h_26 a18 fun v17 => DSl v17 fun x39a x39l x39c =>
                            ∃ bs9 : ByteArray, BytesIn h_26 x39a x39l bs9 ∧
                            IdxA recs0a recs0l (IntKind.wrap .i64 ((Int.tmod (IntKind.wrap .i64 from_0) (IntKind.wrap .i64 (s4.1 + 1))) + s5.2.2)) 1 fun a19 =>
                            Ld h_26 a19 fun v18 => DS v18 fun x40 =>
                            (bif !strEq bs9 x40 then
                              Q (.bool false) h_26
                            else
                              again5 (⟨x38a, x38l, x38c⟩, ⟨s5.2.1.a, s5.2.1.l, s5.2.1.c⟩, IntKind.wrap .i64 (s5.2.2 + 1)) h_26)
                          else
                            IdxA x35a x35l s5.2.2 1 fun a20 =>
                            Ld h_24 a20 fun v19 => DSl v19 fun x41a x41l x41c =>
                            ∃ bs10 : ByteArray, BytesIn h_24 x41a x41l bs10 ∧
                            Al h_24 (.cells #[.string bs10] 9) fun b6 h_27 =>
                            RunH Try.prog (Builtin.append_ #[41, 41] 41 #[.slice s5.2.1.a s5.2.1.l s5.2.1.c, .slice (some (Addr.mk b6 0 none)) 1 1]) h_27 fun r22 h_28 =>
                            DSl r22 fun y2a y2l y2c =>
                            IdxA x35a x35l s5.2.2 1 fun a21 =>
                            Ld h_28 a21 fun v20 => DSl v20 fun x42a x42l x42c =>
                            ∃ bs11 : ByteArray, BytesIn h_28 x42a x42l bs11 ∧
                            IdxA recs0a recs0l (IntKind.wrap .i64 ((Int.tmod (IntKind.wrap .i64 from_0) (IntKind.wrap .i64 (s4.1 + 1))) + s5.2.2)) 1 fun a22 =>
                            Ld h_28 a22 fun v21 => DS v21 fun x43 =>
                            (bif !strEq bs11 x43 then
                              Q (.bool false) h_28
                            else
                              again5 (⟨s5.1.a, s5.1.l, s5.1.c⟩, ⟨y2a, y2l, y2c⟩, IntKind.wrap .i64 (s5.2.2 + 1)) h_28))
                        else
                          again0 (⟨s5.1.a, s5.1.l, s5.1.c⟩, ⟨s5.2.1.a, s5.2.1.l, s5.2.1.c⟩, IntKind.wrap .i64 (s0.2.2 + 1)) h_24)) (⟨s0.1.a, s0.1.l, s0.1.c⟩, ⟨s0.2.1.a, s0.2.1.l, s0.2.1.c⟩, 0) h_23)))
              else
                ((IntKind.wrap .i64 (s4.1 + 1)) : Int) ≠ 0 ∧
                ((IntKind.wrap .i64 ((IntKind.wrap .i64 (s4.1 - (Int.tmod (IntKind.wrap .i64 from_0) (IntKind.wrap .i64 (s4.1 + 1))))) + 1)) : Int) ≠ 0 ∧
                CallsH Try.prog 51 [.pointer x28, .int .i64 (Int.tmod (IntKind.wrap .i64 from_0) (IntKind.wrap .i64 (s4.1 + 1))), .int .i64 (IntKind.wrap .i64 ((Int.tmod (IntKind.wrap .i64 from_0) (IntKind.wrap .i64 (s4.1 + 1))) + (Int.tmod (IntKind.wrap .i64 to0) (IntKind.wrap .i64 ((IntKind.wrap .i64 (s4.1 - (Int.tmod (IntKind.wrap .i64 from_0) (IntKind.wrap .i64 (s4.1 + 1))))) + 1)))))] h_20 fun r23 h_29 =>
                ∃ (x44a : Option Addr), ∃ (x44l : Nat), ∃ (x44c : Nat), ∃ (x45 : Int), r23 = .tuple #[.slice x44a x44l x44c, .int .i64 x45] ∧
                (bif (x45 : Int) != 0 then
                  Q (.bool false) h_29
                else
                  (bif ((x44l : Int) : Int) != (IntKind.wrap .i64 ((IntKind.wrap .i64 ((Int.tmod (IntKind.wrap .i64 from_0) (IntKind.wrap .i64 (s4.1 + 1))) + (Int.tmod (IntKind.wrap .i64 to0) (IntKind.wrap .i64 ((IntKind.wrap .i64 (s4.1 - (Int.tmod (IntKind.wrap .i64 from_0) (IntKind.wrap .i64 (s4.1 + 1))))) + 1))))) - (Int.tmod (IntKind.wrap .i64 from_0) (IntKind.wrap .i64 (s4.1 + 1))))) then
                    Q (.bool false) h_29
                  else
                    LoopH (fun again6 (s6 : Sl × Sl × Int) h_30 =>
                      (bif decide ((s6.2.2 : Int) < (x44l : Int)) then
                        (bif (s0.2.2 : Int) == 0 then
                          IdxA x44a x44l s6.2.2 1 fun a23 =>
                          Ld h_30 a23 fun v22 => DSl v22 fun x46a x46l x46c =>
                          ∃ bs12 : ByteArray, BytesIn h_30 x46a x46l bs12 ∧
                          Al h_30 (.cells #[.string bs12] 9) fun b7 h_31 =>
                          RunH Try.prog (Builtin.append_ #[41, 41] 41 #[.slice s6.1.a s6.1.l s6.1.c, .slice (some (Addr.mk b7 0 none)) 1 1]) h_31 fun r25 h_32 =>
                          DSl r25 fun x47a x47l x47c =>
                          IdxA x44a x44l s6.2.2 1 fun a24 =>
                          Ld h_32 a24 fun v23 => DSl v23 fun x48a x48l x48c =>
                          ∃ bs13 : ByteArray, BytesIn h_32 x48a x48l bs13 ∧
                          IdxA recs0a recs0l (IntKind.wrap .i64 ((Int.tmod (IntKind.wrap .i64 from_0) (IntKind.wrap .i64 (s4.1 + 1))) + s6.2.2)) 1 fun a25 =>
                          Ld h_32 a25 fun v24 => DS v24 fun x49 =>
                          (bif !strEq bs13 x49 then
                            Q (.bool false) h_32
                          else
                            again6 (⟨x47a, x47l, x47c⟩, ⟨s6.2.1.a, s6.2.1.l, s6.2.1.c⟩, IntKind.wrap .i64 (s6.2.2 + 1)) h_32)
                        else
                          IdxA x44a x44l s6.2.2 1 fun a26 =>
                          Ld h_30 a26 fun v25 => DSl v25 fun x50a x50l x50c =>
                          ∃ bs14 : ByteArray, BytesIn h_30 x50a x50l bs14 ∧
                          Al h_30 (.cells #[.string bs14] 9) fun b8 h_33 =>
                          RunH Try.prog (Builtin.append_ #[41, 41] 41 #[.slice s6.2.1.a s6.2.1.l s6.2.1.c, .slice (some (Addr.mk b8 0 none)) 1 1]) h_33 fun r27 h_34 =>
                          DSl r27 fun y3a y3l y3c =>
                          IdxA x44a x44l s6.2.2 1 fun a27 =>
                          Ld h_34 a27 fun v26 => DSl v26 fun x51a x51l x51c =>
                          ∃ bs15 : ByteArray, BytesIn h_34 x51a x51l bs15 ∧
                          IdxA recs0a recs0l (IntKind.wrap .i64 ((Int.tmod (IntKind.wrap .i64 from_0) (IntKind.wrap .i64 (s4.1 + 1))) + s6.2.2)) 1 fun a28 =>
                          Ld h_34 a28 fun v27 => DS v27 fun x52 =>
                          (bif !strEq bs15 x52 then
                            Q (.bool false) h_34
                          else
                            again6 (⟨s6.1.a, s6.1.l, s6.1.c⟩, ⟨y3a, y3l, y3c⟩, IntKind.wrap .i64 (s6.2.2 + 1)) h_34))
                      else
                        again0 (⟨s6.1.a, s6.1.l, s6.1.c⟩, ⟨s6.2.1.a, s6.2.1.l, s6.2.1.c⟩, IntKind.wrap .i64 (s0.2.2 + 1)) h_30)) (⟨s0.1.a, s0.1.l, s0.1.c⟩, ⟨s0.2.1.a, s0.2.1.l, s0.2.1.c⟩, 0) h_29)))) (0, 0) h_19))
      else
        Q (.bool (((s0.1.l : Int) : Int) == (s0.2.1.l : Int))) h_1)) (⟨none, 0, 0⟩, ⟨none, 0, 0⟩, 0) h_0)
theorem F12_eq : (fun (recs0a : Option Addr) (recs0l : Nat) (recs0c : Nat) (a0 : Int) (b0 : Int) (from_0 : Int) (to0 : Int) (h : Heap) (Q : Value → Heap → Prop) => fnPT Try.prog Try.f12 (fun i => bif Nat.beq i 0 then annCons 11 (codSl) (annCons 12 (codSl) (annOne 13 (codI .i64))) else bif Nat.beq i 2 then annCons 19 (codI .i64) (annOne 20 (codI .i64)) else bif Nat.beq i 4 then annCons 11 (codSl) (annCons 12 (codSl) (annOne 26 (codI .i64))) else annNil) (fun _ => []) (fun _ => none) [.slice recs0a recs0l recs0c, .int .u8 a0, .int .u8 b0, .int .u8 from_0, .int .u8 to0] h Q) = F12 := by kernel_rfl
theorem F12_ok {recs0a : Option Addr} {recs0l : Nat} {recs0c : Nat} {a0 : Int} {b0 : Int} {from_0 : Int} {to0 : Int} {h : Heap} {Q : Value → Heap → Prop} (H : F12 recs0a recs0l recs0c a0 b0 from_0 to0 h Q) : CallsH Try.prog 12 [.slice recs0a recs0l recs0c, .int .u8 a0, .int .u8 b0, .int .u8 from_0, .int .u8 to0] h Q :=
  callsH_of (ann := fun i => bif Nat.beq i 0 then annCons 11 (codSl) (annCons 12 (codSl) (annOne 13 (codI .i64))) else bif Nat.beq i 2 then annCons 19 (codI .i64) (annOne 20 (codI .i64)) else bif Nat.beq i 4 then annCons 11 (codSl) (annCons 12 (codSl) (annOne 26 (codI .i64))) else annNil) (tys := fun _ => []) (pl := fun _ => none) Try.func12 (by kernel_rfl) (by have e := F12_eq; exact (congrFun (congrFun (congrFun (congrFun (congrFun (congrFun (congrFun (congrFun (congrFun (e) recs0a) recs0l) recs0c) a0) b0) from_0) to0) h) Q).symm ▸ H)

/-- headgate/headgatelaw10.SegmentNil -/
def F13 (size0 : Int) (from_0 : Int) (to0 : Int) (b0 : ByteArray) (h : Heap) (Q : Value → Heap → Prop) : Prop :=
  CallsH Try.prog 48 [] h fun r0 h_0 =>
  DB r0 fun x0 =>
  (bif !x0 then
    Q (.bool false) h_0
  else
    (bif decide ((((b0 : ByteArray).size : Int) : Int) > 4000) then
      Q (.bool true) h_0
    else
      RunH Try.prog (Go.convert 9 31 (.string b0)) h_0 fun r1 h_1 =>
      DSl r1 fun x1a x1l x1c =>
      CallsH Try.prog 50 [.pointer none, .slice x1a x1l x1c] h_1 fun r2 h_2 =>
      ∃ (x2 : Int), ∃ (x3 : Int), r2 = .tuple #[.int .i64 x2, .int .i64 x3] ∧
      CallsH Try.prog 51 [.pointer none, .int .i64 from_0, .int .i64 to0] h_2 fun r3 h_3 =>
      ∃ (x4a : Option Addr), ∃ (x4l : Nat), ∃ (x4c : Nat), ∃ (x5 : Int), r3 = .tuple #[.slice x4a x4l x4c, .int .i64 x5] ∧
      CallsH Try.prog 49 [.pointer none, .string ⟨#[112]⟩, .int .i64 size0] h_3 fun r4 h_4 =>
      ∃ (x6 : Option Addr), ∃ (x7 : Int), r4 = .tuple #[.pointer x6, .int .i64 x7] ∧
      (bif decide ((size0 : Int) < 1) then
        (bif (x2 : Int) == 0 then
          (bif (x3 : Int) == 1 then
            (bif ((x4l : Int) : Int) == 0 then
              (bif (x5 : Int) == 1 then
                CallsH Try.prog 52 [.pointer none] h_4 fun r5 h_5 =>
                DI .i64 r5 fun x8 =>
                (bif (x8 : Int) == 1 then
                  CallsH Try.prog 53 [.pointer none] h_5 fun r6 h_6 =>
                  DI .i64 r6 fun x9 =>
                  (bif (x9 : Int) == 0 then
                    CallsH Try.prog 54 [.pointer none] h_6 fun r7 h_7 =>
                    DI .i64 r7 fun x10 =>
                    (bif (x10 : Int) == 0 then
                      CallsH Try.prog 55 [.pointer none] h_7 fun r8 h_8 =>
                      DI .i64 r8 fun x11 =>
                      (bif (x11 : Int) == 0 then
                        (bif (x6).isNone then
                          Q (.bool ((x7 : Int) == 2)) h_8
                        else
                          Q (.bool false) h_8)
                      else
                        Q (.bool false) h_8)
                    else
                      Q (.bool false) h_7)
                  else
                    Q (.bool false) h_6)
                else
                  Q (.bool false) h_5)
              else
                Q (.bool false) h_4)
            else
              Q (.bool false) h_4)
          else
            Q (.bool false) h_4)
        else
          Q (.bool false) h_4)
      else
        (bif decide ((size0 : Int) > 16777216) then
          (bif (x2 : Int) == 0 then
            (bif (x3 : Int) == 1 then
              (bif ((x4l : Int) : Int) == 0 then
                (bif (x5 : Int) == 1 then
                  CallsH Try.prog 52 [.pointer none] h_4 fun r9 h_9 =>
                  DI .i64 r9 fun x12 =>
                  (bif (x12 : Int) == 1 then
                    CallsH Try.prog 53 [.pointer none] h_9 fun r10 h_10 =>
                    DI .i64 r10 fun x13 =>
                    (bif (x13 : Int) == 0 then
                      CallsH Try.prog 54 [.pointer none] h_10 fun r11 h_11 =>
                      DI .i64 r11 fun x14 =>
                      (bif (x14 : Int) == 0 then
                        CallsH Try.prog 55 [.pointer none] h_11 fun r12 h_12 =>
                        DI .i64 r12 fun x15 =>
                        (bif (x15 : Int) == 0 then
                          (bif (x6).isNone then
                            Q (.bool ((x7 : Int) == 2)) h_12
                          else
                            Q (.bool false) h_12)
                        else
                          Q (.bool false) h_12)
                      else
                        Q (.bool false) h_11)
                    else
                      Q (.bool false) h_10)
                  else
                    Q (.bool false) h_9)
                else
                  Q (.bool false) h_4)
              else
                Q (.bool false) h_4)
            else
              Q (.bool false) h_4)
          else
            Q (.bool false) h_4)
        else
          (bif (x2 : Int) == 0 then
            (bif (x3 : Int) == 1 then
              (bif ((x4l : Int) : Int) == 0 then
                (bif (x5 : Int) == 1 then
                  CallsH Try.prog 52 [.pointer none] h_4 fun r13 h_13 =>
                  DI .i64 r13 fun x16 =>
                  (bif (x16 : Int) == 1 then
                    CallsH Try.prog 53 [.pointer none] h_13 fun r14 h_14 =>
                    DI .i64 r14 fun x17 =>
                    (bif (x17 : Int) == 0 then
                      CallsH Try.prog 54 [.pointer none] h_14 fun r15 h_15 =>
                      DI .i64 r15 fun x18 =>
                      (bif (x18 : Int) == 0 then
                        CallsH Try.prog 55 [.pointer none] h_15 fun r16 h_16 =>
                        DI .i64 r16 fun x19 =>
                        (bif (x19 : Int) == 0 then
                          (bif (x6).isNone then
                            Q (.bool ((x7 : Int) == 1)) h_16
                          else
                            Q (.bool false) h_16)
                        else
                          Q (.bool false) h_16)
                      else
                        Q (.bool false) h_15)
                    else
                      Q (.bool false) h_14)
                  else
                    Q (.bool false) h_13)
                else
                  Q (.bool false) h_4)
              else
                Q (.bool false) h_4)
            else
              Q (.bool false) h_4)
          else
            Q (.bool false) h_4)))))
theorem F13_eq : (fun (size0 : Int) (from_0 : Int) (to0 : Int) (b0 : ByteArray) (h : Heap) (Q : Value → Heap → Prop) => fnPT Try.prog Try.f13 (fun _ => annNil) (fun _ => []) (fun _ => none) [.int .i64 size0, .int .i64 from_0, .int .i64 to0, .string b0] h Q) = F13 := by kernel_rfl
theorem F13_ok {size0 : Int} {from_0 : Int} {to0 : Int} {b0 : ByteArray} {h : Heap} {Q : Value → Heap → Prop} (H : F13 size0 from_0 to0 b0 h Q) : CallsH Try.prog 13 [.int .i64 size0, .int .i64 from_0, .int .i64 to0, .string b0] h Q :=
  callsH_of (ann := fun _ => annNil) (tys := fun _ => []) (pl := fun _ => none) Try.func13 (by kernel_rfl) (by have e := F13_eq; exact (congrFun (congrFun (congrFun (congrFun (congrFun (congrFun (e) size0) from_0) to0) b0) h) Q).symm ▸ H)

/-- headgate/headgatelaw06.alive -/
def F14 (h : Heap) (Q : Value → Heap → Prop) : Prop :=
  CallsH Try.prog 15 [.int .i64 100] h fun r0 h_0 =>
  ∃ (x0 : Option Addr), ∃ (x1 : Int), r0 = .tuple #[.pointer x0, .int .i64 x1] ∧
  (bif (x1 : Int) != 0 then
    Q (.bool false) h_0
  else
    (bif (x0).isNone then
      Q (.bool false) h_0
    else
      CallsH Try.prog 16 [.pointer x0, .string ⟨#[100]⟩] h_0 fun r1 h_1 =>
      DI .i64 r1 fun x2 =>
      (bif (x2 : Int) != 0 then
        Q (.bool false) h_1
      else
        CallsH Try.prog 17 [.pointer x0, .string ⟨#[100]⟩, .string ⟨#[97]⟩] h_1 fun r2 h_2 =>
        DI .i64 r2 fun x3 =>
        (bif (x3 : Int) != 0 then
          Q (.bool false) h_2
        else
          Al h_2 (.cells #[.int .u8 120, .int .u8 121] 5) fun b0 h_3 =>
          RunH Try.prog (Go.convert 31 31 (.slice (some (Addr.mk b0 0 none)) 2 2)) h_3 fun r4 h_4 =>
          DSl r4 fun x4a x4l x4c =>
          CallsH Try.prog 18 [.pointer x0, .string ⟨#[100]⟩, .string ⟨#[97]⟩, .slice x4a x4l x4c] h_4 fun r5 h_5 =>
          DI .i64 r5 fun x5 =>
          (bif (x5 : Int) != 0 then
            Q (.bool false) h_5
          else
            CallsH Try.prog 20 [.pointer x0, .string ⟨#[100]⟩] h_5 fun r6 h_6 =>
            DI .i64 r6 fun x6 =>
            (bif (x6 : Int) != 0 then
              Q (.bool false) h_6
            else
              Al h_6 (.cells #[.int .i64 0, .int .i64 1] 3) fun b1 h_7 =>
              CallsH Try.prog 24 [.pointer x0, .slice (some (Addr.mk b1 0 none)) 2 2] h_7 fun r8 h_8 =>
              DI .i64 r8 fun x7 =>
              CallsH Try.prog 25 [.pointer x0, .string ⟨#[100]⟩, .string ⟨#[97]⟩] h_8 fun r9 h_9 =>
              ∃ (x8a : Option Addr), ∃ (x8l : Nat), ∃ (x8c : Nat), ∃ (x9 : Int), r9 = .tuple #[.slice x8a x8l x8c, .int .i64 x9] ∧
              (bif (x9 : Int) == 0 then
                ∃ bs0 : ByteArray, BytesIn h_9 x8a x8l bs0 ∧
                (bif strEq bs0 ⟨#[120]⟩ then
                  CallsH Try.prog 23 [.pointer x0] h_9 fun r10 h_10 =>
                  DI .i64 r10 fun x10 =>
                  Q (.bool ((x10 : Int) == 4)) h_10
                else
                  Q (.bool false) h_9)
              else
                Q (.bool false) h_9)))))))
theorem F14_eq : (fun (h : Heap) (Q : Value → Heap → Prop) => fnPT Try.prog Try.f14 (fun _ => annNil) (fun _ => []) (fun _ => none) [] h Q) = F14 := by kernel_rfl
theorem F14_ok {h : Heap} {Q : Value → Heap → Prop} (H : F14 h Q) : CallsH Try.prog 14 [] h Q :=
  callsH_of (ann := fun _ => annNil) (tys := fun _ => []) (pl := fun _ => none) Try.func14 (by kernel_rfl) (by have e := F14_eq; exact (congrFun (congrFun (e) h) Q).symm ▸ H)

/-- headgate/simfs.New -/
def F15 (room0 : Int) (h : Heap) (Q : Value → Heap → Prop) : Prop :=
  (bif decide ((room0 : Int) < 0) then
    Q (.tuple #[.pointer none, .int .i64 2]) h
  else
    (bif decide ((room0 : Int) > 1073741824) then
      Q (.tuple #[.pointer none, .int .i64 2]) h
    else
      Al h (.map #[] 0) fun b0 h_0 =>
      Al h_0 (.cells #[.int .i64 room0, .int .i64 0, .int .i64 0, .int .i64 (-1), .bool false, .map (some b0)] 83) fun b1 h_1 =>
      Q (.tuple #[.pointer (some (Addr.mk b1 0 none)), .int .i64 0]) h_1))
theorem F15_eq : (fun (room0 : Int) (h : Heap) (Q : Value → Heap → Prop) => fnPT Try.prog Try.f15 (fun _ => annNil) (fun _ => []) (fun _ => none) [.int .i64 room0] h Q) = F15 := by kernel_rfl
theorem F15_ok {room0 : Int} {h : Heap} {Q : Value → Heap → Prop} (H : F15 room0 h Q) : CallsH Try.prog 15 [.int .i64 room0] h Q :=
  callsH_of (ann := fun _ => annNil) (tys := fun _ => []) (pl := fun _ => none) Try.func15 (by kernel_rfl) (by have e := F15_eq; exact (congrFun (congrFun (congrFun (e) room0) h) Q).symm ▸ H)

/-- (*headgate/simfs.FS).Mkdir -/
def F16 (f0 : Option Addr) (dir0 : ByteArray) (h : Heap) (Q : Value → Heap → Prop) : Prop :=
  CallsH Try.prog 56 [.pointer f0, .string dir0, .slice none 0 0] h fun r0 h_0 =>
  ∃ (x0 : Option Addr), ∃ (x1 : Int), r0 = .tuple #[.pointer x0, .int .i64 x1] ∧
  (bif (x1 : Int) == 0 then
    Q (.int .i64 63) h_0
  else
    (bif (x1 : Int) != 61 then
      Q (.int .i64 x1) h_0
    else
      NN' f0 fun a0 =>
      Ld h_0 (a0.add 5) fun v0 => DM v0 fun x2 =>
      ∃ es0, mapEs h_0 x2 es0 ∧
      (bif decide ((((es0 : Array MapEntry).size : Int) : Int) ≥ 64) then
        Q (.int .i64 66) h_0
      else
        CallsH Try.prog 57 [.pointer f0] h_0 fun r1 h_1 =>
        DI .i64 r1 fun e0 =>
        (bif (e0 : Int) != 0 then
          Q (.int .i64 e0) h_1
        else
          NN' f0 fun a1 =>
          Ld h_1 (a1.add 5) fun v1 => DM v1 fun x3 =>
          Al h_1 (.map #[] 0) fun b0 h_2 =>
          Al h_2 (.map #[] 0) fun b1 h_3 =>
          Al h_3 (.cells #[.map (some b0), .map (some b1), .slice none 0 0] 91) fun b2 h_4 =>
          RunU Try.prog (Instr.mapUpdate 81 (.map x3) (.string dir0) (.pointer (some (Addr.mk b2 0 none)))) h_4 fun h_5 =>
          Q (.int .i64 0) h_5))))
theorem F16_eq : (fun (f0 : Option Addr) (dir0 : ByteArray) (h : Heap) (Q : Value → Heap → Prop) => fnPT Try.prog Try.f16 (fun _ => annNil) (fun _ => []) (fun _ => none) [.pointer f0, .string dir0] h Q) = F16 := by kernel_rfl
theorem F16_ok {f0 : Option Addr} {dir0 : ByteArray} {h : Heap} {Q : Value → Heap → Prop} (H : F16 f0 dir0 h Q) : CallsH Try.prog 16 [.pointer f0, .string dir0] h Q :=
  callsH_of (ann := fun _ => annNil) (tys := fun _ => []) (pl := fun _ => none) Try.func16 (by kernel_rfl) (by have e := F16_eq; exact (congrFun (congrFun (congrFun (congrFun (e) f0) dir0) h) Q).symm ▸ H)

/-- (*headgate/simfs.FS).Create -/
def F17 (f0 : Option Addr) (dir0 : ByteArray) (name0 : ByteArray) (h : Heap) (Q : Value → Heap → Prop) : Prop :=
  Al h (.cells #[.string name0] 9) fun b0 h_0 =>
  Ld h_0 (Addr.mk b0 0 none) fun v0 => DS v0 fun x0 =>
  Al h_0 (.cells #[.string x0] 9) fun b1 h_1 =>
  CallsH Try.prog 56 [.pointer f0, .string dir0, .slice (some (Addr.mk b1 0 none)) 1 1] h_1 fun r2 h_2 =>
  ∃ (x1 : Option Addr), ∃ (x2 : Int), r2 = .tuple #[.pointer x1, .int .i64 x2] ∧
  (bif (x2 : Int) != 0 then
    Q (.int .i64 x2) h_2
  else
    NN' x1 fun a0 =>
    Ld h_2 (a0.add 0) fun v1 => DM v1 fun x3 =>
    Ld h_2 (Addr.mk b0 0 none) fun v2 => DS v2 fun x4 =>
    ∃ es0, mapEs h_2 x3 es0 ∧ ∃ f1, Instr.findNow .string (.string x4) (es0 : Array MapEntry).toList 0 = some f1 ∧
    DP ((Option.map (fun x => x.2) f1).getD (.pointer none)) fun x5 =>
    (bif !((x5).isNone) then
      Q (.int .i64 63) h_2
    else
      NN' x1 fun a1 =>
      Ld h_2 (a1.add 0) fun v3 => DM v3 fun x6 =>
      ∃ es1, mapEs h_2 x6 es1 ∧
      (bif decide ((((es1 : Array MapEntry).size : Int) : Int) ≥ 4096) then
        Q (.int .i64 66) h_2
      else
        Al h_2 (.cells #[.slice none 0 0, .int .i64 0] 94) fun b2 h_3 =>
        Al h_3 (.cells #[.pointer none] 92) fun b3 h_4 =>
        StC h_4 ((Addr.mk b3 0 none).add 0) (.pointer (some (Addr.mk b2 0 none))) fun h_6 =>
        CallsH Try.prog 58 [.pointer f0, .pointer x1, .func (.func 59) #[] #[.pointer (some (Addr.mk b3 0 none)), .pointer (some (Addr.mk b0 0 none))]] h_6 fun r6 h_7 =>
        DI .i64 r6 fun x7 =>
        Q (.int .i64 x7) h_7)))
theorem F17_eq : (fun (f0 : Option Addr) (dir0 : ByteArray) (name0 : ByteArray) (h : Heap) (Q : Value → Heap → Prop) => fnPT Try.prog Try.f17 (fun _ => annNil) (fun _ => []) (fun _ => none) [.pointer f0, .string dir0, .string name0] h Q) = F17 := by kernel_rfl
theorem F17_ok {f0 : Option Addr} {dir0 : ByteArray} {name0 : ByteArray} {h : Heap} {Q : Value → Heap → Prop} (H : F17 f0 dir0 name0 h Q) : CallsH Try.prog 17 [.pointer f0, .string dir0, .string name0] h Q :=
  callsH_of (ann := fun _ => annNil) (tys := fun _ => []) (pl := fun _ => none) Try.func17 (by kernel_rfl) (by have e := F17_eq; exact (congrFun (congrFun (congrFun (congrFun (congrFun (e) f0) dir0) name0) h) Q).symm ▸ H)

/-- (*headgate/simfs.FS).Append -/
def F18 (f0 : Option Addr) (dir0 : ByteArray) (name0 : ByteArray) (b0a : Option Addr) (b0l : Nat) (b0c : Nat) (h : Heap) (Q : Value → Heap → Prop) : Prop :=
  CallsH Try.prog 60 [.pointer f0, .string dir0, .string name0] h fun r0 h_0 =>
  ∃ (x0 : Option Addr), ∃ (x1 : Option Addr), ∃ (x2 : Int), r0 = .tuple #[.pointer x0, .pointer x1, .int .i64 x2] ∧
  (bif (x2 : Int) != 0 then
    Q (.int .i64 x2) h_0
  else
    NN' x1 fun a0 =>
    Ld h_0 (a0.add 0) fun v0 => DSl v0 fun x3a x3l x3c =>
    (bif decide (((IntKind.wrap .i64 ((x3l : Int) + (b0l : Int))) : Int) > 16777216) then
      Q (.int .i64 67) h_0
    else
      NN' f0 fun a1 =>
      Ld h_0 (a1.add 1) fun v1 => DI .i64 v1 fun x4 =>
      NN' f0 fun a2 =>
      Ld h_0 (a2.add 0) fun v2 => DI .i64 v2 fun x5 =>
      (bif decide (((IntKind.wrap .i64 (x4 + (b0l : Int))) : Int) > x5) then
        Q (.int .i64 64) h_0
      else
        CallsH Try.prog 57 [.pointer f0] h_0 fun r1 h_1 =>
        DI .i64 r1 fun e0 =>
        (bif (e0 : Int) != 0 then
          Q (.int .i64 e0) h_1
        else
          NN' x1 fun a3 =>
          Ld h_1 (a3.add 0) fun v3 => DSl v3 fun x6a x6l x6c =>
          RunH Try.prog (Builtin.append_ #[31, 31] 31 #[.slice x6a x6l x6c, .slice b0a b0l b0c]) h_1 fun r2 h_2 =>
          DSl r2 fun x7a x7l x7c =>
          NN' x1 fun a4 =>
          StC h_2 ((a4.add 0).add 0) (.slice x7a x7l x7c) fun h_4 =>
          NN' f0 fun a5 =>
          Ld h_4 (a5.add 1) fun v4 => DI .i64 v4 fun x8 =>
          NN' f0 fun a6 =>
          StC h_4 ((a6.add 1).add 0) (.int .i64 (IntKind.wrap .i64 (x8 + (b0l : Int)))) fun h_6 =>
          Q (.int .i64 0) h_6))))
theorem F18_eq : (fun (f0 : Option Addr) (dir0 : ByteArray) (name0 : ByteArray) (b0a : Option Addr) (b0l : Nat) (b0c : Nat) (h : Heap) (Q : Value → Heap → Prop) => fnPT Try.prog Try.f18 (fun _ => annNil) (fun _ => []) (fun _ => none) [.pointer f0, .string dir0, .string name0, .slice b0a b0l b0c] h Q) = F18 := by kernel_rfl
theorem F18_ok {f0 : Option Addr} {dir0 : ByteArray} {name0 : ByteArray} {b0a : Option Addr} {b0l : Nat} {b0c : Nat} {h : Heap} {Q : Value → Heap → Prop} (H : F18 f0 dir0 name0 b0a b0l b0c h Q) : CallsH Try.prog 18 [.pointer f0, .string dir0, .string name0, .slice b0a b0l b0c] h Q :=
  callsH_of (ann := fun _ => annNil) (tys := fun _ => []) (pl := fun _ => none) Try.func18 (by kernel_rfl) (by have e := F18_eq; exact (congrFun (congrFun (congrFun (congrFun (congrFun (congrFun (congrFun (congrFun (e) f0) dir0) name0) b0a) b0l) b0c) h) Q).symm ▸ H)

/-- (*headgate/simfs.FS).Sync -/
def F19 (f0 : Option Addr) (dir0 : ByteArray) (name0 : ByteArray) (h : Heap) (Q : Value → Heap → Prop) : Prop :=
  CallsH Try.prog 60 [.pointer f0, .string dir0, .string name0] h fun r0 h_0 =>
  ∃ (x0 : Option Addr), ∃ (x1 : Option Addr), ∃ (x2 : Int), r0 = .tuple #[.pointer x0, .pointer x1, .int .i64 x2] ∧
  (bif (x2 : Int) == 0 then
    CallsH Try.prog 57 [.pointer f0] h_0 fun r1 h_1 =>
    DI .i64 r1 fun e0 =>
    (bif (e0 : Int) == 0 then
      NN' x1 fun a0 =>
      Ld h_1 (a0.add 0) fun v0 => DSl v0 fun x3a x3l x3c =>
      NN' x1 fun a1 =>
      StC h_1 ((a1.add 1).add 0) (.int .i64 (x3l : Int)) fun h_3 =>
      Q (.int .i64 e0) h_3
    else
      Q (.int .i64 e0) h_1)
  else
    (bif (x2 : Int) == 0 then
      NN' x1 fun a2 =>
      Ld h_0 (a2.add 0) fun v1 => DSl v1 fun x4a x4l x4c =>
      NN' x1 fun a3 =>
      StC h_0 ((a3.add 1).add 0) (.int .i64 (x4l : Int)) fun h_5 =>
      Q (.int .i64 x2) h_5
    else
      Q (.int .i64 x2) h_0))
theorem F19_eq : (fun (f0 : Option Addr) (dir0 : ByteArray) (name0 : ByteArray) (h : Heap) (Q : Value → Heap → Prop) => fnPT Try.prog Try.f19 (fun _ => annNil) (fun _ => []) (fun _ => none) [.pointer f0, .string dir0, .string name0] h Q) = F19 := by kernel_rfl
theorem F19_ok {f0 : Option Addr} {dir0 : ByteArray} {name0 : ByteArray} {h : Heap} {Q : Value → Heap → Prop} (H : F19 f0 dir0 name0 h Q) : CallsH Try.prog 19 [.pointer f0, .string dir0, .string name0] h Q :=
  callsH_of (ann := fun _ => annNil) (tys := fun _ => []) (pl := fun _ => none) Try.func19 (by kernel_rfl) (by have e := F19_eq; exact (congrFun (congrFun (congrFun (congrFun (congrFun (e) f0) dir0) name0) h) Q).symm ▸ H)

/-- (*headgate/simfs.FS).SyncDir -/
def F20 (f0 : Option Addr) (dir0 : ByteArray) (h : Heap) (Q : Value → Heap → Prop) : Prop :=
  CallsH Try.prog 56 [.pointer f0, .string dir0, .slice none 0 0] h fun r0 h_0 =>
  ∃ (x0 : Option Addr), ∃ (x1 : Int), r0 = .tuple #[.pointer x0, .int .i64 x1] ∧
  (bif (x1 : Int) == 0 then
    CallsH Try.prog 57 [.pointer f0] h_0 fun r1 h_1 =>
    DI .i64 r1 fun e0 =>
    (bif (e0 : Int) == 0 then
      NN' x0 fun a0 =>
      Ld h_1 (a0.add 0) fun v0 => DM v0 fun x2 =>
      CallsH Try.prog 61 [.map x2] h_1 fun r2 h_2 =>
      DM r2 fun x3 =>
      NN' x0 fun a1 =>
      StC h_2 ((a1.add 1).add 0) (.map x3) fun h_4 =>
      NN' x0 fun a2 =>
      StC h_4 ((a2.add 2).add 0) (.slice none 0 0) fun h_6 =>
      Q (.int .i64 e0) h_6
    else
      Q (.int .i64 e0) h_1)
  else
    (bif (x1 : Int) == 0 then
      NN' x0 fun a3 =>
      Ld h_0 (a3.add 0) fun v1 => DM v1 fun x4 =>
      CallsH Try.prog 61 [.map x4] h_0 fun r5 h_7 =>
      DM r5 fun x5 =>
      NN' x0 fun a4 =>
      StC h_7 ((a4.add 1).add 0) (.map x5) fun h_9 =>
      NN' x0 fun a5 =>
      StC h_9 ((a5.add 2).add 0) (.slice none 0 0) fun h_11 =>
      Q (.int .i64 x1) h_11
    else
      Q (.int .i64 x1) h_0))
theorem F20_eq : (fun (f0 : Option Addr) (dir0 : ByteArray) (h : Heap) (Q : Value → Heap → Prop) => fnPT Try.prog Try.f20 (fun _ => annNil) (fun _ => []) (fun _ => none) [.pointer f0, .string dir0] h Q) = F20 := by kernel_rfl
theorem F20_ok {f0 : Option Addr} {dir0 : ByteArray} {h : Heap} {Q : Value → Heap → Prop} (H : F20 f0 dir0 h Q) : CallsH Try.prog 20 [.pointer f0, .string dir0] h Q :=
  callsH_of (ann := fun _ => annNil) (tys := fun _ => []) (pl := fun _ => none) Try.func20 (by kernel_rfl) (by have e := F20_eq; exact (congrFun (congrFun (congrFun (congrFun (e) f0) dir0) h) Q).symm ▸ H)

/-- (*headgate/simfs.FS).Fuse -/
def F21 (f0 : Option Addr) (n0 : Int) (h : Heap) (Q : Value → Heap → Prop) : Prop :=
  (bif (f0).isNone then
    Q (.int .i64 1) h
  else
    (bif decide ((n0 : Int) < 0) then
      Q (.int .i64 2) h
    else
      NN' f0 fun a0 =>
      StC h ((a0.add 3).add 0) (.int .i64 n0) fun h_1 =>
      Q (.int .i64 0) h_1))
theorem F21_eq : (fun (f0 : Option Addr) (n0 : Int) (h : Heap) (Q : Value → Heap → Prop) => fnPT Try.prog Try.f21 (fun _ => annNil) (fun _ => []) (fun _ => none) [.pointer f0, .int .i64 n0] h Q) = F21 := by kernel_rfl
theorem F21_ok {f0 : Option Addr} {n0 : Int} {h : Heap} {Q : Value → Heap → Prop} (H : F21 f0 n0 h Q) : CallsH Try.prog 21 [.pointer f0, .int .i64 n0] h Q :=
  callsH_of (ann := fun _ => annNil) (tys := fun _ => []) (pl := fun _ => none) Try.func21 (by kernel_rfl) (by have e := F21_eq; exact (congrFun (congrFun (congrFun (congrFun (e) f0) n0) h) Q).symm ▸ H)

/-- (*headgate/simfs.FS).Rename -/
def F22 (f0 : Option Addr) (dir0 : ByteArray) (from_0 : ByteArray) (to0 : ByteArray) (h : Heap) (Q : Value → Heap → Prop) : Prop :=
  Al h (.cells #[.string from_0] 9) fun b0 h_0 =>
  Al h_0 (.cells #[.string to0] 9) fun b1 h_1 =>
  Ld h_1 (Addr.mk b0 0 none) fun v0 => DS v0 fun x0 =>
  Ld h_1 (Addr.mk b1 0 none) fun v1 => DS v1 fun x1 =>
  Al h_1 (.cells #[.string x0, .string x1] 9) fun b2 h_2 =>
  CallsH Try.prog 56 [.pointer f0, .string dir0, .slice (some (Addr.mk b2 0 none)) 2 2] h_2 fun r3 h_3 =>
  ∃ (x2 : Option Addr), ∃ (x3 : Int), r3 = .tuple #[.pointer x2, .int .i64 x3] ∧
  (bif (x3 : Int) != 0 then
    Q (.int .i64 x3) h_3
  else
    NN' x2 fun a0 =>
    Ld h_3 (a0.add 0) fun v2 => DM v2 fun x4 =>
    Ld h_3 (Addr.mk b0 0 none) fun v3 => DS v3 fun x5 =>
    ∃ es0, mapEs h_3 x4 es0 ∧ ∃ f1, Instr.findNow .string (.string x5) (es0 : Array MapEntry).toList 0 = some f1 ∧
    DP ((Option.map (fun x => x.2) f1).getD (.pointer none)) fun x6 =>
    (bif (x6).isNone then
      Q (.int .i64 62) h_3
    else
      CallsH Try.prog 58 [.pointer f0, .pointer x2, .func (.func 62) #[] #[.pointer (some (Addr.mk b0 0 none)), .pointer (some (Addr.mk b1 0 none))]] h_3 fun r4 h_4 =>
      DI .i64 r4 fun x7 =>
      Q (.int .i64 x7) h_4))
theorem F22_eq : (fun (f0 : Option Addr) (dir0 : ByteArray) (from_0 : ByteArray) (to0 : ByteArray) (h : Heap) (Q : Value → Heap → Prop) => fnPT Try.prog Try.f22 (fun _ => annNil) (fun _ => []) (fun _ => none) [.pointer f0, .string dir0, .string from_0, .string to0] h Q) = F22 := by kernel_rfl
theorem F22_ok {f0 : Option Addr} {dir0 : ByteArray} {from_0 : ByteArray} {to0 : ByteArray} {h : Heap} {Q : Value → Heap → Prop} (H : F22 f0 dir0 from_0 to0 h Q) : CallsH Try.prog 22 [.pointer f0, .string dir0, .string from_0, .string to0] h Q :=
  callsH_of (ann := fun _ => annNil) (tys := fun _ => []) (pl := fun _ => none) Try.func22 (by kernel_rfl) (by have e := F22_eq; exact (congrFun (congrFun (congrFun (congrFun (congrFun (congrFun (e) f0) dir0) from_0) to0) h) Q).symm ▸ H)

/-- (*headgate/simfs.FS).Steps -/
def F23 (f0 : Option Addr) (h : Heap) (Q : Value → Heap → Prop) : Prop :=
  (bif (f0).isNone then
    Q (.int .i64 0) h
  else
    NN' f0 fun a0 =>
    Ld h (a0.add 2) fun v0 => DI .i64 v0 fun x0 =>
    Q (.int .i64 x0) h)
theorem F23_eq : (fun (f0 : Option Addr) (h : Heap) (Q : Value → Heap → Prop) => fnPT Try.prog Try.f23 (fun _ => annNil) (fun _ => []) (fun _ => none) [.pointer f0] h Q) = F23 := by kernel_rfl
theorem F23_ok {f0 : Option Addr} {h : Heap} {Q : Value → Heap → Prop} (H : F23 f0 h Q) : CallsH Try.prog 23 [.pointer f0] h Q :=
  callsH_of (ann := fun _ => annNil) (tys := fun _ => []) (pl := fun _ => none) Try.func23 (by kernel_rfl) (by have e := F23_eq; exact (congrFun (congrFun (congrFun (e) f0) h) Q).symm ▸ H)

/-- (*headgate/simfs.FS).Crash -/
def F24 (f0 : Option Addr) (picks0a : Option Addr) (picks0l : Nat) (picks0c : Nat) (h : Heap) (Q : Value → Heap → Prop) : Prop :=
  Al h (.cells #[.slice picks0a picks0l picks0c] 22) fun b0 h_0 =>
  (bif (f0).isNone then
    Q (.int .i64 1) h_0
  else
    CallsH Try.prog 37 [.pointer f0] h_0 fun r1 h_1 =>
    DSl r1 fun x0a x0l x0c =>
    LoopH (fun again0 (s0 : Int) h_2 =>
      (bif decide ((s0 : Int) < (x0l : Int)) then
        IdxA x0a x0l s0 1 fun a0 =>
        Ld h_2 a0 fun v0 => DS v0 fun s1 =>
        NN' f0 fun a1 =>
        Ld h_2 (a1.add 5) fun v1 => DM v1 fun x1 =>
        ∃ es0, mapEs h_2 x1 es0 ∧ ∃ f1, Instr.findNow .string (.string s1) (es0 : Array MapEntry).toList 0 = some f1 ∧
        DP ((Option.map (fun x => x.2) f1).getD (.pointer none)) fun d0 =>
        NN' d0 fun a2 =>
        Ld h_2 (a2.add 2) fun v2 => DSl v2 fun x2a x2l x2c =>
        NN' d0 fun a3 =>
        Ld h_2 (a3.add 2) fun v3 => DSl v3 fun x3a x3l x3c =>
        CallsH Try.prog 63 [.int .i64 (x3l : Int), .pointer (some (Addr.mk b0 0 none))] h_2 fun r2 h_3 =>
        DI .i64 r2 fun x4 =>
        (SameV (some (.pointer d0)) (.pointer d0)) ∧
        (NN' d0 fun a4 =>
        SameV (some (.pointer (some a2))) (.pointer (some a4))) ∧
        (SameV (some (.pointer (some (a2.add 2)))) (.pointer (some (a2.add 2)))) ∧
        (Ld h_3 (a2.add 2) fun v4 => DSl v4 fun x5a x5l x5c =>
        SameV (some (.slice x2a x2l x2c)) (.slice x5a x5l x5c)) ∧
        (SameV (some (.int .i64 0)) (.int .i64 0)) ∧
        SlV x2a x2c 1 0 x4 (x2c : Int) fun s2a s2l s2c =>
        LoopH (fun again1 (s3 : Int) h_4 =>
          (bif decide ((s3 : Int) < (s2l : Int)) then
            IdxA s2a s2l s3 1 fun a5 =>
            Ld h_4 a5 fun v5 => ∃ (do_0 : Value), v5 = do_0 ∧
            NN' d0 fun a6 =>
            Ld h_4 (a6.add 1) fun v6 => DM v6 fun x6 =>
            CallV Try.prog do_0 [.map x6] h_4 fun r3 h_5 =>
            r3 = .tuple #[] ∧
            again1 (IntKind.wrap .i64 (s3 + 1)) h_5
          else
            NN' d0 fun a7 =>
            Ld h_4 (a7.add 1) fun v7 => DM v7 fun x7 =>
            CallsH Try.prog 61 [.map x7] h_4 fun r4 h_6 =>
            DM r4 fun x8 =>
            NN' d0 fun a8 =>
            StC h_6 ((a8.add 0).add 0) (.map x8) fun h_8 =>
            NN' d0 fun a9 =>
            StC h_8 ((a9.add 2).add 0) (.slice none 0 0) fun h_10 =>
            again0 (IntKind.wrap .i64 (s0 + 1)) h_10)) 0 h_3
      else
        CallsH Try.prog 37 [.pointer f0] h_2 fun r7 h_11 =>
        DSl r7 fun x9a x9l x9c =>
        LoopH (fun again2 (s4 : Int) h_12 =>
          (bif decide ((s4 : Int) < (x9l : Int)) then
            IdxA x9a x9l s4 1 fun a10 =>
            Ld h_12 a10 fun v8 => DS v8 fun s5 =>
            NN' f0 fun a11 =>
            Ld h_12 (a11.add 5) fun v9 => DM v9 fun x10 =>
            ∃ es1, mapEs h_12 x10 es1 ∧ ∃ f2, Instr.findNow .string (.string s5) (es1 : Array MapEntry).toList 0 = some f2 ∧
            DP ((Option.map (fun x => x.2) f2).getD (.pointer none)) fun d1 =>
            NN' d1 fun a12 =>
            Ld h_12 (a12.add 0) fun v10 => DM v10 fun x11 =>
            CallsH Try.prog 65 [.map x11] h_12 fun r8 h_13 =>
            ∃ (x12 : Value), r8 = x12 ∧
            CallsH Try.prog 64 [x12] h_13 fun r9 h_14 =>
            DSl r9 fun x13a x13l x13c =>
            LoopH (fun again3 (s6 : Int) h_15 =>
              (bif decide ((s6 : Int) < (x13l : Int)) then
                IdxA x13a x13l s6 1 fun a13 =>
                Ld h_15 a13 fun v11 => DS v11 fun n0 =>
                NN' d1 fun a14 =>
                Ld h_15 (a14.add 0) fun v12 => DM v12 fun x14 =>
                ∃ es2, mapEs h_15 x14 es2 ∧ ∃ f3, Instr.findNow .string (.string n0) (es2 : Array MapEntry).toList 0 = some f3 ∧
                DP ((Option.map (fun x => x.2) f3).getD (.pointer none)) fun x15 =>
                NN' x15 fun a15 =>
                Ld h_15 (a15.add 0) fun v13 => DSl v13 fun x16a x16l x16c =>
                NN' x15 fun a16 =>
                Ld h_15 (a16.add 1) fun v14 => DI .i64 v14 fun x17 =>
                NN' x15 fun a17 =>
                Ld h_15 (a17.add 0) fun v15 => DSl v15 fun x18a x18l x18c =>
                NN' x15 fun a18 =>
                Ld h_15 (a18.add 1) fun v16 => DI .i64 v16 fun x19 =>
                CallsH Try.prog 63 [.int .i64 (IntKind.wrap .i64 ((x18l : Int) - x19)), .pointer (some (Addr.mk b0 0 none))] h_15 fun r10 h_16 =>
                DI .i64 r10 fun x20 =>
                (SameV (some (.pointer x15)) (.pointer x15)) ∧
                (SameV (some (.pointer x15)) (.pointer x15)) ∧
                (NN' x15 fun a19 =>
                SameV (some (.pointer (some a15))) (.pointer (some a19))) ∧
                (SameV (some (.pointer (some (a15.add 0)))) (.pointer (some (a15.add 0)))) ∧
                (Ld h_16 (a15.add 0) fun v17 => DSl v17 fun x21a x21l x21c =>
                SameV (some (.slice x16a x16l x16c)) (.slice x21a x21l x21c)) ∧
                (SameV (some (.pointer x15)) (.pointer x15)) ∧
                (NN' x15 fun a20 =>
                SameV (some (.pointer (some a16))) (.pointer (some a20))) ∧
                (SameV (some (.pointer (some (a16.add 1)))) (.pointer (some (a16.add 1)))) ∧
                (Ld h_16 (a16.add 1) fun v18 => DI .i64 v18 fun x22 =>
                SameV (some (.int .i64 x17)) (.int .i64 x22)) ∧
                SlV x16a x16c 1 0 (IntKind.wrap .i64 (x17 + x20)) (x16c : Int) fun s7a s7l s7c =>
                NN' x15 fun a21 =>
                StC h_16 ((a21.add 0).add 0) (.slice s7a s7l s7c) fun h_18 =>
                NN' x15 fun a22 =>
                Ld h_18 (a22.add 0) fun v19 => DSl v19 fun x23a x23l x23c =>
                NN' x15 fun a23 =>
                StC h_18 ((a23.add 1).add 0) (.int .i64 (x23l : Int)) fun h_20 =>
                again3 (IntKind.wrap .i64 (s6 + 1)) h_20
              else
                again2 (IntKind.wrap .i64 (s4 + 1)) h_15)) 0 h_14
          else
            NN' f0 fun a24 =>
            StC h_12 ((a24.add 4).add 0) (.bool false) fun h_22 =>
            NN' f0 fun a25 =>
            StC h_22 ((a25.add 3).add 0) (.int .i64 (-1)) fun h_24 =>
            CallsH Try.prog 66 [.pointer f0] h_24 fun r15 h_25 =>
            r15 = .tuple #[] ∧
            Q (.int .i64 0) h_25)) 0 h_11)) 0 h_1)
theorem F24_eq : (fun (f0 : Option Addr) (picks0a : Option Addr) (picks0l : Nat) (picks0c : Nat) (h : Heap) (Q : Value → Heap → Prop) => fnPT Try.prog Try.f24 (fun i => bif Nat.beq i 0 then annOne 23 (codI .i64) else bif Nat.beq i 2 then annOne 46 (codI .i64) else bif Nat.beq i 4 then annOne 72 (codI .i64) else bif Nat.beq i 6 then annOne 89 (codI .i64) else annNil) (fun _ => []) (fun i => bif Nat.beq i 8 then some ⟨[0, 1, 3, 7, 0, 0, 32, 96, 224, 480, 1008, 2047, 4095, 0], 1024⟩ else bif Nat.beq i 23 then some ⟨[0, 0, 2, 6, 14, 0, 32, 96, 224, 0, 0, 1024, 3072, 7168, 15360, 0, 32768, 98304, 229376, 523264, 1048064, 2097120, 4194302, 8388607, 16777215, 33554431], 34603008⟩ else none) [.pointer f0, .slice picks0a picks0l picks0c] h Q) = F24 := by kernel_rfl
theorem F24_ok {f0 : Option Addr} {picks0a : Option Addr} {picks0l : Nat} {picks0c : Nat} {h : Heap} {Q : Value → Heap → Prop} (H : F24 f0 picks0a picks0l picks0c h Q) : CallsH Try.prog 24 [.pointer f0, .slice picks0a picks0l picks0c] h Q :=
  callsH_of (ann := fun i => bif Nat.beq i 0 then annOne 23 (codI .i64) else bif Nat.beq i 2 then annOne 46 (codI .i64) else bif Nat.beq i 4 then annOne 72 (codI .i64) else bif Nat.beq i 6 then annOne 89 (codI .i64) else annNil) (tys := fun _ => []) (pl := fun i => bif Nat.beq i 8 then some ⟨[0, 1, 3, 7, 0, 0, 32, 96, 224, 480, 1008, 2047, 4095, 0], 1024⟩ else bif Nat.beq i 23 then some ⟨[0, 0, 2, 6, 14, 0, 32, 96, 224, 0, 0, 1024, 3072, 7168, 15360, 0, 32768, 98304, 229376, 523264, 1048064, 2097120, 4194302, 8388607, 16777215, 33554431], 34603008⟩ else none) Try.func24 (by kernel_rfl) (by have e := F24_eq; exact (congrFun (congrFun (congrFun (congrFun (congrFun (congrFun (e) f0) picks0a) picks0l) picks0c) h) Q).symm ▸ H)

/-- (*headgate/simfs.FS).Read -/
def F25 (f0 : Option Addr) (dir0 : ByteArray) (name0 : ByteArray) (h : Heap) (Q : Value → Heap → Prop) : Prop :=
  CallsH Try.prog 60 [.pointer f0, .string dir0, .string name0] h fun r0 h_0 =>
  ∃ (x0 : Option Addr), ∃ (x1 : Option Addr), ∃ (x2 : Int), r0 = .tuple #[.pointer x0, .pointer x1, .int .i64 x2] ∧
  (bif (x2 : Int) != 0 then
    Q (.tuple #[.slice none 0 0, .int .i64 x2]) h_0
  else
    NN' x1 fun a0 =>
    Ld h_0 (a0.add 0) fun v0 => DSl v0 fun x3a x3l x3c =>
    CallsH Try.prog 67 [.slice x3a x3l x3c] h_0 fun r1 h_1 =>
    DSl r1 fun x4a x4l x4c =>
    Q (.tuple #[.slice x4a x4l x4c, .int .i64 0]) h_1)
theorem F25_eq : (fun (f0 : Option Addr) (dir0 : ByteArray) (name0 : ByteArray) (h : Heap) (Q : Value → Heap → Prop) => fnPT Try.prog Try.f25 (fun _ => annNil) (fun _ => []) (fun _ => none) [.pointer f0, .string dir0, .string name0] h Q) = F25 := by kernel_rfl
theorem F25_ok {f0 : Option Addr} {dir0 : ByteArray} {name0 : ByteArray} {h : Heap} {Q : Value → Heap → Prop} (H : F25 f0 dir0 name0 h Q) : CallsH Try.prog 25 [.pointer f0, .string dir0, .string name0] h Q :=
  callsH_of (ann := fun _ => annNil) (tys := fun _ => []) (pl := fun _ => none) Try.func25 (by kernel_rfl) (by have e := F25_eq; exact (congrFun (congrFun (congrFun (congrFun (congrFun (e) f0) dir0) name0) h) Q).symm ▸ H)

/-- headgate/headgateref06.Heavy -/
def F26 (l_0a : Option Addr) (l_0l : Nat) (l_0c : Nat) (h : Heap) (Q : Value → Heap → Prop) : Prop :=
  LoopH (fun again0 (s0 : Int × Int) h_0 =>
    (bif decide ((s0.2 : Int) < (l_0l : Int)) then
      IdxA l_0a l_0l s0.2 7 fun a0 =>
      Ld h_0 (a0.add 3) fun v0 => DS v0 fun x0 =>
      IdxA l_0a l_0l s0.2 7 fun a1 =>
      Ld h_0 (a1.add 6) fun v1 => DSl v1 fun x1a x1l x1c =>
      (bif decide (((IntKind.wrap .i64 ((IntKind.wrap .i64 ((IntKind.wrap .i64 (s0.1 + 1)) + (if (20000 : Int) < ((x0 : ByteArray).size : Int) then 20000 else ((x0 : ByteArray).size : Int)))) + (if (20000 : Int) < (x1l : Int) then 20000 else (x1l : Int)))) : Int) > 20000) then
        Q (.bool true) h_0
      else
        IdxA l_0a l_0l s0.2 7 fun a2 =>
        Ld h_0 (a2.add 1) fun v2 => DS v2 fun x2 =>
        (bif decide ((((x2 : ByteArray).size : Int) : Int) > 100) then
          Q (.bool true) h_0
        else
          IdxA l_0a l_0l s0.2 7 fun a3 =>
          Ld h_0 (a3.add 2) fun v3 => DS v3 fun x3 =>
          (bif decide ((((x3 : ByteArray).size : Int) : Int) > 100) then
            Q (.bool true) h_0
          else
            again0 (IntKind.wrap .i64 ((IntKind.wrap .i64 ((IntKind.wrap .i64 (s0.1 + 1)) + (if (20000 : Int) < ((x0 : ByteArray).size : Int) then 20000 else ((x0 : ByteArray).size : Int)))) + (if (20000 : Int) < (x1l : Int) then 20000 else (x1l : Int))), IntKind.wrap .i64 (s0.2 + 1)) h_0)))
    else
      Q (.bool false) h_0)) (0, 0) h
theorem F26_eq : (fun (l_0a : Option Addr) (l_0l : Nat) (l_0c : Nat) (h : Heap) (Q : Value → Heap → Prop) => fnPT Try.prog Try.f26 (fun i => bif Nat.beq i 0 then annCons 3 (codI .i64) (annOne 4 (codI .i64)) else annNil) (fun _ => []) (fun _ => none) [.slice l_0a l_0l l_0c] h Q) = F26 := by kernel_rfl
theorem F26_ok {l_0a : Option Addr} {l_0l : Nat} {l_0c : Nat} {h : Heap} {Q : Value → Heap → Prop} (H : F26 l_0a l_0l l_0c h Q) : CallsH Try.prog 26 [.slice l_0a l_0l l_0c] h Q :=
  callsH_of (ann := fun i => bif Nat.beq i 0 then annCons 3 (codI .i64) (annOne 4 (codI .i64)) else annNil) (tys := fun _ => []) (pl := fun _ => none) Try.func26 (by kernel_rfl) (by have e := F26_eq; exact (congrFun (congrFun (congrFun (congrFun (congrFun (e) l_0a) l_0l) l_0c) h) Q).symm ▸ H)

/-- headgate/headgatelaw06.FsPlain$1 -/
def F27 (s0 : ByteArray) (c0 : Addr) (h : Heap) (Q : Value → Heap → Prop) : Prop :=
  LoopH (fun again0 (s1 : Int) h_0 =>
    Ld h_0 c0 fun v0 => DSl v0 fun x0a x0l x0c =>
    (bif decide ((s1 : Int) < (x0l : Int)) then
      Ld h_0 c0 fun v1 => DSl v1 fun x1a x1l x1c =>
      IdxA x1a x1l s1 1 fun a0 =>
      Ld h_0 a0 fun v2 => DS v2 fun x2 =>
      (bif strEq x2 s0 then
        Q (.int .i64 s1) h_0
      else
        again0 (IntKind.wrap .i64 (s1 + 1)) h_0)
    else
      Q (.int .i64 (-1)) h_0)) 0 h
theorem F27_eq : (fun (s0 : ByteArray) (c0 : Addr) (h : Heap) (Q : Value → Heap → Prop) => fnPT Try.prog Try.f27 (fun i => bif Nat.beq i 0 then annOne 4 (codI .i64) else annNil) (fun _ => []) (fun _ => none) [.string s0, .pointer (some c0)] h Q) = F27 := by kernel_rfl
theorem F27_ok {s0 : ByteArray} {c0 : Addr} {h : Heap} {Q : Value → Heap → Prop} (H : F27 s0 c0 h Q) : CallsH Try.prog 27 [.string s0, .pointer (some c0)] h Q :=
  callsH_of (ann := fun i => bif Nat.beq i 0 then annOne 4 (codI .i64) else annNil) (tys := fun _ => []) (pl := fun _ => none) Try.func27 (by kernel_rfl) (by have e := F27_eq; exact (congrFun (congrFun (congrFun (congrFun (e) s0) c0) h) Q).symm ▸ H)

/-- headgate/headgatelaw06.FsPlain$2 -/
def F28 (i0 : Int) (c0 : Addr) (c1 : Addr) (h : Heap) (Q : Value → Heap → Prop) : Prop :=
  Ld h c0 fun v0 => DSl v0 fun x0a x0l x0c =>
  SlV x0a x0c 1 0 i0 (x0c : Int) fun s0a s0l s0c =>
  Ld h c0 fun v1 => DSl v1 fun x1a x1l x1c =>
  SlV x1a x1c 1 (IntKind.wrap .i64 (i0 + 1)) (x1l : Int) (x1c : Int) fun s1a s1l s1c =>
  Al h (.cells #[] 9) fun b0 h_0 =>
  (Ld h_0 c0 fun v2 => DSl v2 fun x2a x2l x2c =>
  SameV (some (.slice x0a x0l x0c)) (.slice x2a x2l x2c)) ∧
  (SameV (some (.int .i64 i0)) (.int .i64 i0)) ∧
  (SlV x0a x0c 1 0 i0 (x0c : Int) fun s2a s2l s2c =>
  SameV (some (.slice s0a s0l s0c)) (.slice s2a s2l s2c)) ∧
  (Ld h_0 c0 fun v3 => DSl v3 fun x3a x3l x3c =>
  SameV (some (.slice x1a x1l x1c)) (.slice x3a x3l x3c)) ∧
  (SameV (some (.int .i64 i0)) (.int .i64 i0)) ∧
  (SameV (some (.int .i64 (IntKind.wrap .i64 (i0 + 1)))) (.int .i64 (IntKind.wrap .i64 (i0 + 1)))) ∧
  (SlV x1a x1c 1 (IntKind.wrap .i64 (i0 + 1)) (x1l : Int) (x1c : Int) fun s3a s3l s3c =>
  SameV (some (.slice s1a s1l s1c)) (.slice s3a s3l s3c)) ∧
  RunH Try.prog (Builtin.append_ #[41, 41] 41 #[.slice (some (Addr.mk b0 0 none)) 0 0, .slice s0a s0l s0c]) h_0 fun r1 h_1 =>
  DSl r1 fun x4a x4l x4c =>
  (Ld h_1 c0 fun v4 => DSl v4 fun x5a x5l x5c =>
  SameV (some (.slice x1a x1l x1c)) (.slice x5a x5l x5c)) ∧
  (SameV (some (.int .i64 i0)) (.int .i64 i0)) ∧
  (SameV (some (.int .i64 (IntKind.wrap .i64 (i0 + 1)))) (.int .i64 (IntKind.wrap .i64 (i0 + 1)))) ∧
  (SlV x1a x1c 1 (IntKind.wrap .i64 (i0 + 1)) (x1l : Int) (x1c : Int) fun s4a s4l s4c =>
  SameV (some (.slice s1a s1l s1c)) (.slice s4a s4l s4c)) ∧
  RunH Try.prog (Builtin.append_ #[41, 41] 41 #[.slice x4a x4l x4c, .slice s1a s1l s1c]) h_1 fun r2 h_2 =>
  DSl r2 fun x6a x6l x6c =>
  StC h_2 (c0.add 0) (.slice x6a x6l x6c) fun h_4 =>
  Ld h_4 c1 fun v5 => DSl v5 fun x7a x7l x7c =>
  SlV x7a x7c 1 0 i0 (x7c : Int) fun s5a s5l s5c =>
  Ld h_4 c1 fun v6 => DSl v6 fun x8a x8l x8c =>
  SlV x8a x8c 1 (IntKind.wrap .i64 (i0 + 1)) (x8l : Int) (x8c : Int) fun s6a s6l s6c =>
  Al h_4 (.cells #[] 9) fun b1 h_5 =>
  (Ld h_5 c1 fun v7 => DSl v7 fun x9a x9l x9c =>
  SameV (some (.slice x7a x7l x7c)) (.slice x9a x9l x9c)) ∧
  (SameV (some (.int .i64 i0)) (.int .i64 i0)) ∧
  (SlV x7a x7c 1 0 i0 (x7c : Int) fun s7a s7l s7c =>
  SameV (some (.slice s5a s5l s5c)) (.slice s7a s7l s7c)) ∧
  (Ld h_5 c1 fun v8 => DSl v8 fun x10a x10l x10c =>
  SameV (some (.slice x8a x8l x8c)) (.slice x10a x10l x10c)) ∧
  (SameV (some (.int .i64 i0)) (.int .i64 i0)) ∧
  (SameV (some (.int .i64 (IntKind.wrap .i64 (i0 + 1)))) (.int .i64 (IntKind.wrap .i64 (i0 + 1)))) ∧
  (SlV x8a x8c 1 (IntKind.wrap .i64 (i0 + 1)) (x8l : Int) (x8c : Int) fun s8a s8l s8c =>
  SameV (some (.slice s6a s6l s6c)) (.slice s8a s8l s8c)) ∧
  RunH Try.prog (Builtin.append_ #[41, 41] 41 #[.slice (some (Addr.mk b1 0 none)) 0 0, .slice s5a s5l s5c]) h_5 fun r5 h_6 =>
  DSl r5 fun x11a x11l x11c =>
  (Ld h_6 c1 fun v9 => DSl v9 fun x12a x12l x12c =>
  SameV (some (.slice x8a x8l x8c)) (.slice x12a x12l x12c)) ∧
  (SameV (some (.int .i64 i0)) (.int .i64 i0)) ∧
  (SameV (some (.int .i64 (IntKind.wrap .i64 (i0 + 1)))) (.int .i64 (IntKind.wrap .i64 (i0 + 1)))) ∧
  (SlV x8a x8c 1 (IntKind.wrap .i64 (i0 + 1)) (x8l : Int) (x8c : Int) fun s9a s9l s9c =>
  SameV (some (.slice s6a s6l s6c)) (.slice s9a s9l s9c)) ∧
  RunH Try.prog (Builtin.append_ #[41, 41] 41 #[.slice x11a x11l x11c, .slice s6a s6l s6c]) h_6 fun r6 h_7 =>
  DSl r6 fun x13a x13l x13c =>
  StC h_7 (c1.add 0) (.slice x13a x13l x13c) fun h_9 =>
  Q (.tuple #[]) h_9
theorem F28_eq : (fun (i0 : Int) (c0 : Addr) (c1 : Addr) (h : Heap) (Q : Value → Heap → Prop) => fnPT Try.prog Try.f28 (fun _ => annNil) (fun _ => []) (fun i => bif Nat.beq i 0 then some ⟨[0, 0, 0, 6, 15, 0, 0, 64, 224, 511, 1023], 1553⟩ else bif Nat.beq i 1 then some ⟨[0, 0, 0, 6, 15, 0, 0, 64, 224, 511, 1023], 1553⟩ else none) [.int .i64 i0, .pointer (some c0), .pointer (some c1)] h Q) = F28 := by kernel_rfl
theorem F28_ok {i0 : Int} {c0 : Addr} {c1 : Addr} {h : Heap} {Q : Value → Heap → Prop} (H : F28 i0 c0 c1 h Q) : CallsH Try.prog 28 [.int .i64 i0, .pointer (some c0), .pointer (some c1)] h Q :=
  callsH_of (ann := fun _ => annNil) (tys := fun _ => []) (pl := fun i => bif Nat.beq i 0 then some ⟨[0, 0, 0, 6, 15, 0, 0, 64, 224, 511, 1023], 1553⟩ else bif Nat.beq i 1 then some ⟨[0, 0, 0, 6, 15, 0, 0, 64, 224, 511, 1023], 1553⟩ else none) Try.func28 (by kernel_rfl) (by have e := F28_eq; exact (congrFun (congrFun (congrFun (congrFun (congrFun (e) i0) c0) c1) h) Q).symm ▸ H)

/-- (*headgate/simfs.FS).Remove -/
def F29 (f0 : Option Addr) (dir0 : ByteArray) (name0 : ByteArray) (h : Heap) (Q : Value → Heap → Prop) : Prop :=
  Al h (.cells #[.string name0] 9) fun b0 h_0 =>
  Ld h_0 (Addr.mk b0 0 none) fun v0 => DS v0 fun x0 =>
  CallsH Try.prog 60 [.pointer f0, .string dir0, .string x0] h_0 fun r1 h_1 =>
  ∃ (x1 : Option Addr), ∃ (x2 : Option Addr), ∃ (x3 : Int), r1 = .tuple #[.pointer x1, .pointer x2, .int .i64 x3] ∧
  (bif (x3 : Int) != 0 then
    Q (.int .i64 x3) h_1
  else
    CallsH Try.prog 58 [.pointer f0, .pointer x1, .func (.func 68) #[] #[.pointer (some (Addr.mk b0 0 none))]] h_1 fun r2 h_2 =>
    DI .i64 r2 fun x4 =>
    Q (.int .i64 x4) h_2)
theorem F29_eq : (fun (f0 : Option Addr) (dir0 : ByteArray) (name0 : ByteArray) (h : Heap) (Q : Value → Heap → Prop) => fnPT Try.prog Try.f29 (fun _ => annNil) (fun _ => []) (fun _ => none) [.pointer f0, .string dir0, .string name0] h Q) = F29 := by kernel_rfl
theorem F29_ok {f0 : Option Addr} {dir0 : ByteArray} {name0 : ByteArray} {h : Heap} {Q : Value → Heap → Prop} (H : F29 f0 dir0 name0 h Q) : CallsH Try.prog 29 [.pointer f0, .string dir0, .string name0] h Q :=
  callsH_of (ann := fun _ => annNil) (tys := fun _ => []) (pl := fun _ => none) Try.func29 (by kernel_rfl) (by have e := F29_eq; exact (congrFun (congrFun (congrFun (congrFun (congrFun (e) f0) dir0) name0) h) Q).symm ▸ H)

/-- (*headgate/simfs.FS).List -/
def F30 (f0 : Option Addr) (dir0 : ByteArray) (h : Heap) (Q : Value → Heap → Prop) : Prop :=
  CallsH Try.prog 56 [.pointer f0, .string dir0, .slice none 0 0] h fun r0 h_0 =>
  ∃ (x0 : Option Addr), ∃ (x1 : Int), r0 = .tuple #[.pointer x0, .int .i64 x1] ∧
  (bif (x1 : Int) != 0 then
    Q (.tuple #[.slice none 0 0, .int .i64 x1]) h_0
  else
    NN' x0 fun a0 =>
    Ld h_0 (a0.add 0) fun v0 => DM v0 fun x2 =>
    CallsH Try.prog 65 [.map x2] h_0 fun r1 h_1 =>
    ∃ (x3 : Value), r1 = x3 ∧
    CallsH Try.prog 64 [x3] h_1 fun r2 h_2 =>
    DSl r2 fun x4a x4l x4c =>
    Q (.tuple #[.slice x4a x4l x4c, .int .i64 0]) h_2)
theorem F30_eq : (fun (f0 : Option Addr) (dir0 : ByteArray) (h : Heap) (Q : Value → Heap → Prop) => fnPT Try.prog Try.f30 (fun _ => annNil) (fun _ => []) (fun _ => none) [.pointer f0, .string dir0] h Q) = F30 := by kernel_rfl
theorem F30_ok {f0 : Option Addr} {dir0 : ByteArray} {h : Heap} {Q : Value → Heap → Prop} (H : F30 f0 dir0 h Q) : CallsH Try.prog 30 [.pointer f0, .string dir0] h Q :=
  callsH_of (ann := fun _ => annNil) (tys := fun _ => []) (pl := fun _ => none) Try.func30 (by kernel_rfl) (by have e := F30_eq; exact (congrFun (congrFun (congrFun (congrFun (e) f0) dir0) h) Q).symm ▸ H)

/-- (*headgate/simfs.FS).Used -/
def F31 (f0 : Option Addr) (h : Heap) (Q : Value → Heap → Prop) : Prop :=
  (bif (f0).isNone then
    Q (.int .i64 0) h
  else
    NN' f0 fun a0 =>
    Ld h (a0.add 1) fun v0 => DI .i64 v0 fun x0 =>
    Q (.int .i64 x0) h)
theorem F31_eq : (fun (f0 : Option Addr) (h : Heap) (Q : Value → Heap → Prop) => fnPT Try.prog Try.f31 (fun _ => annNil) (fun _ => []) (fun _ => none) [.pointer f0] h Q) = F31 := by kernel_rfl
theorem F31_ok {f0 : Option Addr} {h : Heap} {Q : Value → Heap → Prop} (H : F31 f0 h Q) : CallsH Try.prog 31 [.pointer f0] h Q :=
  callsH_of (ann := fun _ => annNil) (tys := fun _ => []) (pl := fun _ => none) Try.func31 (by kernel_rfl) (by have e := F31_eq; exact (congrFun (congrFun (congrFun (e) f0) h) Q).symm ▸ H)

/-- (*headgate/simfs.FS).On -/
def F32 (f0 : Option Addr) (h : Heap) (Q : Value → Heap → Prop) : Prop :=
  (bif !((f0).isNone) then
    NN' f0 fun a0 =>
    Ld h (a0.add 4) fun v0 => DB v0 fun x0 =>
    Q (.bool (!x0)) h
  else
    Q (.bool false) h)
theorem F32_eq : (fun (f0 : Option Addr) (h : Heap) (Q : Value → Heap → Prop) => fnPT Try.prog Try.f32 (fun _ => annNil) (fun _ => []) (fun _ => none) [.pointer f0] h Q) = F32 := by kernel_rfl
theorem F32_ok {f0 : Option Addr} {h : Heap} {Q : Value → Heap → Prop} (H : F32 f0 h Q) : CallsH Try.prog 32 [.pointer f0] h Q :=
  callsH_of (ann := fun _ => annNil) (tys := fun _ => []) (pl := fun _ => none) Try.func32 (by kernel_rfl) (by have e := F32_eq; exact (congrFun (congrFun (congrFun (e) f0) h) Q).symm ▸ H)

/-- headgate/headgateref06.New -/
def F33 (room0 : Int) (h : Heap) (Q : Value → Heap → Prop) : Prop :=
  (bif decide ((room0 : Int) < 0) then
    Q (.tuple #[.pointer none, .int .i64 2]) h
  else
    (bif decide ((room0 : Int) > 1073741824) then
      Q (.tuple #[.pointer none, .int .i64 2]) h
    else
      Al h (.cells #[.int .i64 room0, .int .i64 0, .int .i64 (-1), .bool false, .slice none 0 0, .slice none 0 0] 110) fun b0 h_0 =>
      Q (.tuple #[.pointer (some (Addr.mk b0 0 none)), .int .i64 0]) h_0))
theorem F33_eq : (fun (room0 : Int) (h : Heap) (Q : Value → Heap → Prop) => fnPT Try.prog Try.f33 (fun _ => annNil) (fun _ => []) (fun _ => none) [.int .i64 room0] h Q) = F33 := by kernel_rfl
theorem F33_ok {room0 : Int} {h : Heap} {Q : Value → Heap → Prop} (H : F33 room0 h Q) : CallsH Try.prog 33 [.int .i64 room0] h Q :=
  callsH_of (ann := fun _ => annNil) (tys := fun _ => []) (pl := fun _ => none) Try.func33 (by kernel_rfl) (by have e := F33_eq; exact (congrFun (congrFun (congrFun (e) room0) h) Q).symm ▸ H)

/-- headgate/headgatelaw06.Do -/
def F34 (f0 : Option Addr) (a0 : Int) (a1 : ByteArray) (a2 : ByteArray) (a3 : ByteArray) (a4 : Int) (a5 : Int) (a6a : Option Addr) (a6l : Nat) (a6c : Nat) (h : Heap) (Q : Value → Heap → Prop) : Prop :=
  Al h (.cells #[.int .i64 a0, .string a1, .string a2, .string a3, .int .i64 a4, .int .u8 a5, .slice a6a a6l a6c] 45) fun b0 h_0 =>
  Ld h_0 ((Addr.mk b0 0 none).add 0) fun v0 => DI .i64 v0 fun x0 =>
  (bif (x0 : Int) == 0 then
    Ld h_0 ((Addr.mk b0 0 none).add 1) fun v1 => DS v1 fun x1 =>
    CallsH Try.prog 16 [.pointer f0, .string x1] h_0 fun r1 h_1 =>
    DI .i64 r1 fun x2 =>
    Q (.int .i64 x2) h_1
  else
    (bif (x0 : Int) == 1 then
      Ld h_0 ((Addr.mk b0 0 none).add 1) fun v2 => DS v2 fun x3 =>
      Ld h_0 ((Addr.mk b0 0 none).add 2) fun v3 => DS v3 fun x4 =>
      CallsH Try.prog 17 [.pointer f0, .string x3, .string x4] h_0 fun r2 h_2 =>
      DI .i64 r2 fun x5 =>
      Q (.int .i64 x5) h_2
    else
      (bif (x0 : Int) == 2 then
        Ld h_0 ((Addr.mk b0 0 none).add 3) fun v4 => DS v4 fun x6 =>
        RunH Try.prog (Go.convert 9 31 (.string x6)) h_0 fun r3 h_3 =>
        DSl r3 fun b1a b1l b1c =>
        Ld h_3 ((Addr.mk b0 0 none).add 1) fun v5 => DS v5 fun x7 =>
        Ld h_3 ((Addr.mk b0 0 none).add 2) fun v6 => DS v6 fun x8 =>
        CallsH Try.prog 18 [.pointer f0, .string x7, .string x8, .slice b1a b1l b1c] h_3 fun r4 h_4 =>
        DI .i64 r4 fun e0 =>
        LoopH (fun again0 (s0 : Int) h_5 =>
          (bif decide ((s0 : Int) < (b1l : Int)) then
            IdxA b1a b1l s0 1 fun a7 =>
            Ld h_5 a7 fun v7 => DI .u8 v7 fun x9 =>
            IdxA b1a b1l s0 1 fun a8 =>
            StC h_5 (a8.add 0) (.int .u8 (bitsI .xor .u8 x9 255)) fun h_7 =>
            again0 (IntKind.wrap .i64 (s0 + 1)) h_7
          else
            Q (.int .i64 e0) h_5)) 0 h_4
      else
        (bif (x0 : Int) == 3 then
          Ld h_0 ((Addr.mk b0 0 none).add 1) fun v8 => DS v8 fun x10 =>
          Ld h_0 ((Addr.mk b0 0 none).add 2) fun v9 => DS v9 fun x11 =>
          CallsH Try.prog 19 [.pointer f0, .string x10, .string x11] h_0 fun r6 h_8 =>
          DI .i64 r6 fun x12 =>
          Q (.int .i64 x12) h_8
        else
          (bif (x0 : Int) == 4 then
            Ld h_0 ((Addr.mk b0 0 none).add 1) fun v10 => DS v10 fun x13 =>
            CallsH Try.prog 20 [.pointer f0, .string x13] h_0 fun r7 h_9 =>
            DI .i64 r7 fun x14 =>
            Q (.int .i64 x14) h_9
          else
            (bif (x0 : Int) == 5 then
              Ld h_0 ((Addr.mk b0 0 none).add 1) fun v11 => DS v11 fun x15 =>
              Ld h_0 ((Addr.mk b0 0 none).add 2) fun v12 => DS v12 fun x16 =>
              Ld h_0 ((Addr.mk b0 0 none).add 3) fun v13 => DS v13 fun x17 =>
              CallsH Try.prog 22 [.pointer f0, .string x15, .string x16, .string x17] h_0 fun r8 h_10 =>
              DI .i64 r8 fun x18 =>
              Q (.int .i64 x18) h_10
            else
              (bif (x0 : Int) == 6 then
                Ld h_0 ((Addr.mk b0 0 none).add 1) fun v14 => DS v14 fun x19 =>
                Ld h_0 ((Addr.mk b0 0 none).add 2) fun v15 => DS v15 fun x20 =>
                CallsH Try.prog 29 [.pointer f0, .string x19, .string x20] h_0 fun r9 h_11 =>
                DI .i64 r9 fun x21 =>
                Q (.int .i64 x21) h_11
              else
                (bif (x0 : Int) == 7 then
                  Ld h_0 ((Addr.mk b0 0 none).add 4) fun v16 => DI .i64 v16 fun x22 =>
                  CallsH Try.prog 69 [.pointer f0, .int .i64 x22] h_0 fun r10 h_12 =>
                  DI .i64 r10 fun x23 =>
                  Q (.int .i64 x23) h_12
                else
                  (bif (x0 : Int) == 8 then
                    Ld h_0 ((Addr.mk b0 0 none).add 4) fun v17 => DI .i64 v17 fun x24 =>
                    CallsH Try.prog 21 [.pointer f0, .int .i64 x24] h_0 fun r11 h_13 =>
                    DI .i64 r11 fun x25 =>
                    Q (.int .i64 x25) h_13
                  else
                    (bif (x0 : Int) == 9 then
                      Ld h_0 ((Addr.mk b0 0 none).add 6) fun v18 => DSl v18 fun x26a x26l x26c =>
                      CallsH Try.prog 24 [.pointer f0, .slice x26a x26l x26c] h_0 fun r12 h_14 =>
                      DI .i64 r12 fun x27 =>
                      Q (.int .i64 x27) h_14
                    else
                      (bif (x0 : Int) == 10 then
                        Ld h_0 ((Addr.mk b0 0 none).add 1) fun v19 => DS v19 fun x28 =>
                        Ld h_0 ((Addr.mk b0 0 none).add 2) fun v20 => DS v20 fun x29 =>
                        Ld h_0 ((Addr.mk b0 0 none).add 4) fun v21 => DI .i64 v21 fun x30 =>
                        Ld h_0 ((Addr.mk b0 0 none).add 5) fun v22 => DI .u8 v22 fun x31 =>
                        CallsH Try.prog 70 [.pointer f0, .string x28, .string x29, .int .i64 x30, .int .u8 x31] h_0 fun r13 h_15 =>
                        DI .i64 r13 fun x32 =>
                        Q (.int .i64 x32) h_15
                      else
                        (bif (x0 : Int) == 11 then
                          Ld h_0 ((Addr.mk b0 0 none).add 1) fun v23 => DS v23 fun x33 =>
                          Ld h_0 ((Addr.mk b0 0 none).add 2) fun v24 => DS v24 fun x34 =>
                          Ld h_0 ((Addr.mk b0 0 none).add 3) fun v25 => DS v25 fun x35 =>
                          RunH Try.prog (Go.convert 9 31 (.string x35)) h_0 fun r14 h_16 =>
                          DSl r14 fun x36a x36l x36c =>
                          CallsH Try.prog 71 [.pointer f0, .string x33, .string x34, .slice x36a x36l x36c] h_16 fun r15 h_17 =>
                          DI .i64 r15 fun x37 =>
                          Q (.int .i64 x37) h_17
                        else
                          Q (.int .i64 0) h_0))))))))))))
theorem F34_eq : (fun (f0 : Option Addr) (a0 : Int) (a1 : ByteArray) (a2 : ByteArray) (a3 : ByteArray) (a4 : Int) (a5 : Int) (a6a : Option Addr) (a6l : Nat) (a6c : Nat) (h : Heap) (Q : Value → Heap → Prop) => fnPT Try.prog Try.f34 (fun i => bif Nat.beq i 1 then annOne 7 (codI .i64) else annNil) (fun _ => []) (fun _ => none) [.pointer f0, .agg #[.int .i64 a0, .string a1, .string a2, .string a3, .int .i64 a4, .int .u8 a5, .slice a6a a6l a6c]] h Q) = F34 := by kernel_rfl
theorem F34_ok {f0 : Option Addr} {a0 : Int} {a1 : ByteArray} {a2 : ByteArray} {a3 : ByteArray} {a4 : Int} {a5 : Int} {a6a : Option Addr} {a6l : Nat} {a6c : Nat} {h : Heap} {Q : Value → Heap → Prop} (H : F34 f0 a0 a1 a2 a3 a4 a5 a6a a6l a6c h Q) : CallsH Try.prog 34 [.pointer f0, .agg #[.int .i64 a0, .string a1, .string a2, .string a3, .int .i64 a4, .int .u8 a5, .slice a6a a6l a6c]] h Q :=
  callsH_of (ann := fun i => bif Nat.beq i 1 then annOne 7 (codI .i64) else annNil) (tys := fun _ => []) (pl := fun _ => none) Try.func34 (by kernel_rfl) (by have e := F34_eq; exact (congrFun (congrFun (congrFun (congrFun (congrFun (congrFun (congrFun (congrFun (congrFun (congrFun (congrFun (congrFun (e) f0) a0) a1) a2) a3) a4) a5) a6a) a6l) a6c) h) Q).symm ▸ H)

/-- (*headgate/headgateref06.FS).Do -/
def F35 (f0 : Option Addr) (a0 : Int) (a1 : ByteArray) (a2 : ByteArray) (a3 : ByteArray) (a4 : Int) (a5 : Int) (a6a : Option Addr) (a6l : Nat) (a6c : Nat) (h : Heap) (Q : Value → Heap → Prop) : Prop :=
  Al h (.cells #[.int .i64 a0, .string a1, .string a2, .string a3, .int .i64 a4, .int .u8 a5, .slice a6a a6l a6c] 45) fun b0 h_0 =>
  Ld h_0 ((Addr.mk b0 0 none).add 0) fun v0 => DI .i64 v0 fun x0 =>
  (bif (x0 : Int) == 0 then
    Ld h_0 ((Addr.mk b0 0 none).add 1) fun v1 => DS v1 fun x1 =>
    CallsH Try.prog 72 [.pointer f0, .string x1] h_0 fun r1 h_1 =>
    DI .i64 r1 fun x2 =>
    Q (.int .i64 x2) h_1
  else
    (bif (x0 : Int) == 1 then
      Ld h_0 ((Addr.mk b0 0 none).add 1) fun v2 => DS v2 fun x3 =>
      Ld h_0 ((Addr.mk b0 0 none).add 2) fun v3 => DS v3 fun x4 =>
      CallsH Try.prog 73 [.pointer f0, .string x3, .string x4] h_0 fun r2 h_2 =>
      DI .i64 r2 fun x5 =>
      Q (.int .i64 x5) h_2
    else
      (bif (x0 : Int) == 2 then
        Ld h_0 ((Addr.mk b0 0 none).add 1) fun v4 => DS v4 fun x6 =>
        Ld h_0 ((Addr.mk b0 0 none).add 2) fun v5 => DS v5 fun x7 =>
        Ld h_0 ((Addr.mk b0 0 none).add 3) fun v6 => DS v6 fun x8 =>
        CallsH Try.prog 74 [.pointer f0, .string x6, .string x7, .string x8] h_0 fun r3 h_3 =>
        DI .i64 r3 fun x9 =>
        Q (.int .i64 x9) h_3
      else
        (bif (x0 : Int) == 3 then
          Ld h_0 ((Addr.mk b0 0 none).add 1) fun v7 => DS v7 fun x10 =>
          Ld h_0 ((Addr.mk b0 0 none).add 2) fun v8 => DS v8 fun x11 =>
          CallsH Try.prog 75 [.pointer f0, .string x10, .string x11] h_0 fun r4 h_4 =>
          DI .i64 r4 fun x12 =>
          Q (.int .i64 x12) h_4
        else
          (bif (x0 : Int) == 4 then
            Ld h_0 ((Addr.mk b0 0 none).add 1) fun v9 => DS v9 fun x13 =>
            CallsH Try.prog 76 [.pointer f0, .string x13] h_0 fun r5 h_5 =>
            DI .i64 r5 fun x14 =>
            Q (.int .i64 x14) h_5
          else
            (bif (x0 : Int) == 5 then
              Ld h_0 ((Addr.mk b0 0 none).add 1) fun v10 => DS v10 fun x15 =>
              Ld h_0 ((Addr.mk b0 0 none).add 2) fun v11 => DS v11 fun x16 =>
              Ld h_0 ((Addr.mk b0 0 none).add 3) fun v12 => DS v12 fun x17 =>
              CallsH Try.prog 77 [.pointer f0, .string x15, .string x16, .string x17] h_0 fun r6 h_6 =>
              DI .i64 r6 fun x18 =>
              Q (.int .i64 x18) h_6
            else
              (bif (x0 : Int) == 6 then
                Ld h_0 ((Addr.mk b0 0 none).add 1) fun v13 => DS v13 fun x19 =>
                Ld h_0 ((Addr.mk b0 0 none).add 2) fun v14 => DS v14 fun x20 =>
                CallsH Try.prog 78 [.pointer f0, .string x19, .string x20] h_0 fun r7 h_7 =>
                DI .i64 r7 fun x21 =>
                Q (.int .i64 x21) h_7
              else
                (bif (x0 : Int) == 7 then
                  Ld h_0 ((Addr.mk b0 0 none).add 4) fun v15 => DI .i64 v15 fun x22 =>
                  CallsH Try.prog 79 [.pointer f0, .int .i64 x22] h_0 fun r8 h_8 =>
                  DI .i64 r8 fun x23 =>
                  Q (.int .i64 x23) h_8
                else
                  (bif (x0 : Int) == 8 then
                    Ld h_0 ((Addr.mk b0 0 none).add 4) fun v16 => DI .i64 v16 fun x24 =>
                    CallsH Try.prog 80 [.pointer f0, .int .i64 x24] h_0 fun r9 h_9 =>
                    DI .i64 r9 fun x25 =>
                    Q (.int .i64 x25) h_9
                  else
                    (bif (x0 : Int) == 9 then
                      Ld h_0 ((Addr.mk b0 0 none).add 6) fun v17 => DSl v17 fun x26a x26l x26c =>
                      CallsH Try.prog 81 [.pointer f0, .slice x26a x26l x26c] h_0 fun r10 h_10 =>
                      r10 = .tuple #[] ∧
                      Q (.int .i64 0) h_10
                    else
                      (bif (x0 : Int) == 10 then
                        Ld h_0 ((Addr.mk b0 0 none).add 1) fun v18 => DS v18 fun x27 =>
                        Ld h_0 ((Addr.mk b0 0 none).add 2) fun v19 => DS v19 fun x28 =>
                        Ld h_0 ((Addr.mk b0 0 none).add 4) fun v20 => DI .i64 v20 fun x29 =>
                        Ld h_0 ((Addr.mk b0 0 none).add 5) fun v21 => DI .u8 v21 fun x30 =>
                        CallsH Try.prog 82 [.pointer f0, .string x27, .string x28, .int .i64 x29, .int .u8 x30] h_0 fun r11 h_11 =>
                        DI .i64 r11 fun x31 =>
                        Q (.int .i64 x31) h_11
                      else
                        (bif (x0 : Int) == 11 then
                          Ld h_0 ((Addr.mk b0 0 none).add 1) fun v22 => DS v22 fun x32 =>
                          Ld h_0 ((Addr.mk b0 0 none).add 2) fun v23 => DS v23 fun x33 =>
                          Ld h_0 ((Addr.mk b0 0 none).add 3) fun v24 => DS v24 fun x34 =>
                          CallsH Try.prog 83 [.pointer f0, .string x32, .string x33, .string x34] h_0 fun r12 h_12 =>
                          DI .i64 r12 fun x35 =>
                          Q (.int .i64 x35) h_12
                        else
                          Q (.int .i64 0) h_0))))))))))))
theorem F35_eq : (fun (f0 : Option Addr) (a0 : Int) (a1 : ByteArray) (a2 : ByteArray) (a3 : ByteArray) (a4 : Int) (a5 : Int) (a6a : Option Addr) (a6l : Nat) (a6c : Nat) (h : Heap) (Q : Value → Heap → Prop) => fnPT Try.prog Try.f35 (fun _ => annNil) (fun _ => []) (fun _ => none) [.pointer f0, .agg #[.int .i64 a0, .string a1, .string a2, .string a3, .int .i64 a4, .int .u8 a5, .slice a6a a6l a6c]] h Q) = F35 := by kernel_rfl
theorem F35_ok {f0 : Option Addr} {a0 : Int} {a1 : ByteArray} {a2 : ByteArray} {a3 : ByteArray} {a4 : Int} {a5 : Int} {a6a : Option Addr} {a6l : Nat} {a6c : Nat} {h : Heap} {Q : Value → Heap → Prop} (H : F35 f0 a0 a1 a2 a3 a4 a5 a6a a6l a6c h Q) : CallsH Try.prog 35 [.pointer f0, .agg #[.int .i64 a0, .string a1, .string a2, .string a3, .int .i64 a4, .int .u8 a5, .slice a6a a6l a6c]] h Q :=
  callsH_of (ann := fun _ => annNil) (tys := fun _ => []) (pl := fun _ => none) Try.func35 (by kernel_rfl) (by have e := F35_eq; exact (congrFun (congrFun (congrFun (congrFun (congrFun (congrFun (congrFun (congrFun (congrFun (congrFun (congrFun (congrFun (e) f0) a0) a1) a2) a3) a4) a5) a6a) a6l) a6c) h) Q).symm ▸ H)

/-- headgate/headgatelaw06.Shows -/
def F36 (f0 : Option Addr) (m0 : Option Addr) (h : Heap) (Q : Value → Heap → Prop) : Prop :=
  ∃ r1, (CallsH Try.prog 31 [.pointer f0] h fun r0 h_0 =>
  r0 = r1 ∧ h_0 = h) ∧
  DI .i64 r1 fun x0 =>
  ∃ r3, (CallsH Try.prog 84 [.pointer m0] h fun r2 h_1 =>
  r2 = r3 ∧ h_1 = h) ∧
  DI .i64 r3 fun x1 =>
  (bif (x0 : Int) != x1 then
    Q (.bool false) h
  else
    ∃ r5, (CallsH Try.prog 23 [.pointer f0] h fun r4 h_2 =>
    r4 = r5 ∧ h_2 = h) ∧
    DI .i64 r5 fun x2 =>
    NN' m0 fun a0 =>
    Ld h (a0.add 1) fun v0 => DI .i64 v0 fun x3 =>
    (bif (x2 : Int) != x3 then
      Q (.bool false) h
    else
      ∃ r7, (CallsH Try.prog 32 [.pointer f0] h fun r6 h_3 =>
      r6 = r7 ∧ h_3 = h) ∧
      DB r7 fun x4 =>
      NN' m0 fun a1 =>
      Ld h (a1.add 3) fun v1 => DB v1 fun x5 =>
      (bif x4 == x5 then
        Q (.bool false) h
      else
        CallsH Try.prog 37 [.pointer f0] h fun r8 h_4 =>
        DSl r8 fun dirs0a dirs0l dirs0c =>
        NN' m0 fun a2 =>
        Ld h_4 (a2.add 5) fun v2 => DSl v2 fun x6a x6l x6c =>
        (bif ((dirs0l : Int) : Int) != (x6l : Int) then
          Q (.bool false) h_4
        else
          LoopH (fun again0 (s0 : Int) h_5 =>
            (bif decide ((s0 : Int) < (dirs0l : Int)) then
              IdxA dirs0a dirs0l s0 1 fun a3 =>
              Ld h_5 a3 fun v3 => DS v3 fun x7 =>
              CallsH Try.prog 30 [.pointer f0, .string x7] h_5 fun r9 h_6 =>
              ∃ (x8a : Option Addr), ∃ (x8l : Nat), ∃ (x8c : Nat), ∃ (x9 : Int), r9 = .tuple #[.slice x8a x8l x8c, .int .i64 x9] ∧
              NN' m0 fun a4 =>
              Ld h_6 (a4.add 5) fun v4 => DSl v4 fun x10a x10l x10c =>
              IdxA x10a x10l s0 4 fun a5 =>
              Ld h_6 (a5.add 0) fun v5 => DS v5 fun x11 =>
              CallsH Try.prog 85 [.pointer m0, .string x11] h_6 fun r10 h_7 =>
              ∃ (x12a : Option Addr), ∃ (x12l : Nat), ∃ (x12c : Nat), ∃ (x13 : Int), r10 = .tuple #[.slice x12a x12l x12c, .int .i64 x13] ∧
              IdxA dirs0a dirs0l s0 1 fun a6 =>
              Ld h_7 a6 fun v6 => DS v6 fun x14 =>
              NN' m0 fun a7 =>
              Ld h_7 (a7.add 5) fun v7 => DSl v7 fun x15a x15l x15c =>
              IdxA x15a x15l s0 4 fun a8 =>
              Ld h_7 (a8.add 0) fun v8 => DS v8 fun x16 =>
              (bif !strEq x14 x16 then
                Q (.bool false) h_7
              else
                (bif (x9 : Int) != x13 then
                  Q (.bool false) h_7
                else
                  (bif ((x8l : Int) : Int) != (x12l : Int) then
                    Q (.bool false) h_7
                  else
                    LoopH (fun again1 (s1 : Int) h_8 =>
                      (bif decide ((s1 : Int) < (x8l : Int)) then
                        IdxA dirs0a dirs0l s0 1 fun a9 =>
                        Ld h_8 a9 fun v9 => DS v9 fun x17 =>
                        IdxA x8a x8l s1 1 fun a10 =>
                        Ld h_8 a10 fun v10 => DS v10 fun x18 =>
                        ∃ r12, (CallsH Try.prog 25 [.pointer f0, .string x17, .string x18] h_8 fun r11 h_9 =>
                        r11 = r12 ∧ h_9 = h_8) ∧
                        ∃ (x19a : Option Addr), ∃ (x19l : Nat), ∃ (x19c : Nat), ∃ (x20 : Int), r12 = .tuple #[.slice x19a x19l x19c, .int .i64 x20] ∧
                        IdxA dirs0a dirs0l s0 1 fun a11 =>
                        Ld h_8 a11 fun v11 => DS v11 fun x21 =>
                        IdxA x12a x12l s1 1 fun a12 =>
                        Ld h_8 a12 fun v12 => DS v12 fun x22 =>
                        ∃ r14, (CallsH Try.prog 86 [.pointer m0, .string x21, .string x22] h_8 fun r13 h_10 =>
                        r13 = r14 ∧ h_10 = h_8) ∧
                        ∃ (x23 : ByteArray), ∃ (x24 : Int), r14 = .tuple #[.string x23, .int .i64 x24] ∧
                        IdxA x8a x8l s1 1 fun a13 =>
                        Ld h_8 a13 fun v13 => DS v13 fun x25 =>
                        IdxA x12a x12l s1 1 fun a14 =>
                        Ld h_8 a14 fun v14 => DS v14 fun x26 =>
                        (bif !strEq x25 x26 then
                          Q (.bool false) h_8
                        else
                          (bif (x20 : Int) != x24 then
                            Q (.bool false) h_8
                          else
                            ∃ bs0 : ByteArray, BytesIn h_8 x19a x19l bs0 ∧
                            (bif !strEq bs0 x23 then
                              Q (.bool false) h_8
                            else
                              again1 (IntKind.wrap .i64 (s1 + 1)) h_8)))
                      else
                        again0 (IntKind.wrap .i64 (s0 + 1)) h_8)) 0 h_7)))
            else
              Q (.bool true) h_5)) 0 h_4))))
theorem F36_eq : (fun (f0 : Option Addr) (m0 : Option Addr) (h : Heap) (Q : Value → Heap → Prop) => fnPT Try.prog Try.f36 (fun i => bif Nat.beq i 0 then annOne 6 (codI .i64) else bif Nat.beq i 2 then annOne 11 (codI .i64) else annNil) (fun _ => []) (fun _ => none) [.pointer f0, .pointer m0] h Q) = F36 := by kernel_rfl
theorem F36_ok {f0 : Option Addr} {m0 : Option Addr} {h : Heap} {Q : Value → Heap → Prop} (H : F36 f0 m0 h Q) : CallsH Try.prog 36 [.pointer f0, .pointer m0] h Q :=
  callsH_of (ann := fun i => bif Nat.beq i 0 then annOne 6 (codI .i64) else bif Nat.beq i 2 then annOne 11 (codI .i64) else annNil) (tys := fun _ => []) (pl := fun _ => none) Try.func36 (by kernel_rfl) (by have e := F36_eq; exact (congrFun (congrFun (congrFun (congrFun (e) f0) m0) h) Q).symm ▸ H)

/-- (*headgate/simfs.FS).Dirs -/
def F37 (f0 : Option Addr) (h : Heap) (Q : Value → Heap → Prop) : Prop :=
  (bif (f0).isNone then
    Q (.slice none 0 0) h
  else
    NN' f0 fun a0 =>
    Ld h (a0.add 5) fun v0 => DM v0 fun x0 =>
    CallsH Try.prog 87 [.map x0] h fun r0 h_0 =>
    ∃ (x1 : Value), r0 = x1 ∧
    CallsH Try.prog 64 [x1] h_0 fun r1 h_1 =>
    DSl r1 fun x2a x2l x2c =>
    Q (.slice x2a x2l x2c) h_1)
theorem F37_eq : (fun (f0 : Option Addr) (h : Heap) (Q : Value → Heap → Prop) => fnPT Try.prog Try.f37 (fun _ => annNil) (fun _ => []) (fun _ => none) [.pointer f0] h Q) = F37 := by kernel_rfl
theorem F37_ok {f0 : Option Addr} {h : Heap} {Q : Value → Heap → Prop} (H : F37 f0 h Q) : CallsH Try.prog 37 [.pointer f0] h Q :=
  callsH_of (ann := fun _ => annNil) (tys := fun _ => []) (pl := fun _ => none) Try.func37 (by kernel_rfl) (by have e := F37_eq; exact (congrFun (congrFun (congrFun (e) f0) h) Q).symm ▸ H)

/-- headgate/headgatelaw07.alive -/
def F38 (h : Heap) (Q : Value → Heap → Prop) : Prop :=
  CallsH Try.prog 15 [.int .i64 1000] h fun r0 h_0 =>
  ∃ (x0 : Option Addr), ∃ (x1 : Int), r0 = .tuple #[.pointer x0, .int .i64 x1] ∧
  (bif (x1 : Int) != 0 then
    Q (.bool false) h_0
  else
    (bif (x0).isNone then
      Q (.bool false) h_0
    else
      CallsH Try.prog 42 [.pointer x0, .string ⟨#[100]⟩] h_0 fun r1 h_1 =>
      ∃ (x2a : Option Addr), ∃ (x2l : Nat), ∃ (x2c : Nat), ∃ (x3 : Int), r1 = .tuple #[.slice x2a x2l x2c, .int .i64 x3] ∧
      (bif (x3 : Int) != 0 then
        Q (.bool false) h_1
      else
        (bif ((x2l : Int) : Int) != 0 then
          Q (.bool false) h_1
        else
          Al h_1 (.cells #[.int .u8 120] 5) fun b0 h_2 =>
          RunH Try.prog (Go.convert 31 31 (.slice (some (Addr.mk b0 0 none)) 1 1)) h_2 fun r3 h_3 =>
          DSl r3 fun x4a x4l x4c =>
          CallsH Try.prog 43 [.pointer x0, .string ⟨#[100]⟩, .string ⟨#[97]⟩, .slice x4a x4l x4c] h_3 fun r4 h_4 =>
          DI .i64 r4 fun x5 =>
          (bif (x5 : Int) != 0 then
            Q (.bool false) h_4
          else
            CallsH Try.prog 39 [.int .i64 255] h_4 fun r5 h_5 =>
            DS r5 fun x6 =>
            (bif !strEq x6 ⟨#[48, 48, 48, 48, 48, 48, 48, 48, 48, 48, 48, 48, 48, 48, 102, 102]⟩ then
              Q (.bool false) h_5
            else
              CallsH Try.prog 40 [.pointer x0, .string ⟨#[100]⟩, .string ⟨#[97]⟩] h_5 fun r6 h_6 =>
              ∃ (x7a : Option Addr), ∃ (x7l : Nat), ∃ (x7c : Nat), ∃ (x8 : Int), r6 = .tuple #[.slice x7a x7l x7c, .int .i64 x8] ∧
              (bif (x8 : Int) == 0 then
                ∃ bs0 : ByteArray, BytesIn h_6 x7a x7l bs0 ∧
                (bif strEq bs0 ⟨#[120]⟩ then
                  CallsH Try.prog 23 [.pointer x0] h_6 fun r7 h_7 =>
                  DI .i64 r7 fun x9 =>
                  Q (.bool ((x9 : Int) == 6)) h_7
                else
                  Q (.bool false) h_6)
              else
                Q (.bool false) h_6)))))))
theorem F38_eq : (fun (h : Heap) (Q : Value → Heap → Prop) => fnPT Try.prog Try.f38 (fun _ => annNil) (fun _ => []) (fun _ => none) [] h Q) = F38 := by kernel_rfl
theorem F38_ok {h : Heap} {Q : Value → Heap → Prop} (H : F38 h Q) : CallsH Try.prog 38 [] h Q :=
  callsH_of (ann := fun _ => annNil) (tys := fun _ => []) (pl := fun _ => none) Try.func38 (by kernel_rfl) (by have e := F38_eq; exact (congrFun (congrFun (e) h) Q).symm ▸ H)

end Go.Proofs.Yticjjdhaikbdaaa
