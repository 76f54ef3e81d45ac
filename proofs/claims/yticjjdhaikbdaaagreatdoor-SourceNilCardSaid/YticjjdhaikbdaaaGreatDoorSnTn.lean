/- The texts over heaps of functions of the program: written by a program of this claim's writer (decomp.py); Lean checks each against the code. -/
import Derived.Test.YticjjdhaikbdaaaGreatDoorSnFwA
import Derived.Test.YticjjdhaikbdaaaGreatDoorProg
namespace Go.Proofs.YticjjdhaikbdaaaGreatDoor
open Go Go.RowKit
set_option linter.unusedVariables false
set_option maxRecDepth 100000

/-- headgate/headgatelaw11.SourceNil -/
def F6 (part0 : Int) (most0 : Int) (l_0a : Option Addr) (l_0l : Nat) (l_0c : Nat) (parts0 : Int) (h : Heap) (Q : Value → Heap → Prop) : Prop :=
  CallsH Tryz.prog 8 [] h fun r0 h_0 =>
  DB r0 fun x0 =>
  (bif !x0 then
    Q (.bool false) h_0
  else
    CallsH Tryz.prog 14 [.pointer none, .int .i64 part0, .slice none 0 0] h_0 fun r1 h_1 =>
    ∃ (x1 : Int), ∃ (x2 : Int), r1 = .tuple #[.int .i64 x1, .int .i64 x2] ∧
    CallsH Tryz.prog 17 [.pointer none, .slice l_0a l_0l l_0c, .int .i64 most0] h_1 fun r2 h_2 =>
    ∃ (x3a : Option Addr), ∃ (x3l : Nat), ∃ (x3c : Nat), ∃ (x4 : Int), r2 = .tuple #[.slice x3a x3l x3c, .int .i64 x4] ∧
    CallsH Tryz.prog 19 [.pointer none, .slice l_0a l_0l l_0c] h_2 fun r3 h_3 =>
    ∃ (x5a : Option Addr), ∃ (x5l : Nat), ∃ (x5c : Nat), ∃ (x6 : Int), r3 = .tuple #[.slice x5a x5l x5c, .int .i64 x6] ∧
    CallsH Tryz.prog 13 [.pointer none, .int .i64 parts0, .int .i64 100] h_3 fun r4 h_4 =>
    ∃ (x7 : Option Addr), ∃ (x8 : Int), r4 = .tuple #[.pointer x7, .int .i64 x8] ∧
    (bif decide ((parts0 : Int) < 1) then
      (bif (x2 : Int) == 1 then
        (bif (x4 : Int) == 1 then
          (bif (x6 : Int) == 1 then
            CallsH Tryz.prog 15 [.pointer none, .int .i64 part0] h_4 fun r5 h_5 =>
            DI .i64 r5 fun x9 =>
            (bif (x9 : Int) == 1 then
              CallsH Tryz.prog 20 [.pointer none] h_5 fun r6 h_6 =>
              DI .i64 r6 fun x10 =>
              (bif (x10 : Int) == 0 then
                CallsH Tryz.prog 21 [.pointer none] h_6 fun r7 h_7 =>
                DSl r7 fun x11a x11l x11c =>
                (bif ((x11l : Int) : Int) == 0 then
                  (bif (x7).isNone then
                    Q (.bool ((x8 : Int) == 110)) h_7
                  else
                    Q (.bool false) h_7)
                else
                  Q (.bool false) h_7)
              else
                Q (.bool false) h_6)
            else
              Q (.bool false) h_5)
          else
            Q (.bool false) h_4)
        else
          Q (.bool false) h_4)
      else
        Q (.bool false) h_4)
    else
      (bif decide ((parts0 : Int) > 4) then
        (bif (x2 : Int) == 1 then
          (bif (x4 : Int) == 1 then
            (bif (x6 : Int) == 1 then
              CallsH Tryz.prog 15 [.pointer none, .int .i64 part0] h_4 fun r8 h_8 =>
              DI .i64 r8 fun x12 =>
              (bif (x12 : Int) == 1 then
                CallsH Tryz.prog 20 [.pointer none] h_8 fun r9 h_9 =>
                DI .i64 r9 fun x13 =>
                (bif (x13 : Int) == 0 then
                  CallsH Tryz.prog 21 [.pointer none] h_9 fun r10 h_10 =>
                  DSl r10 fun x14a x14l x14c =>
                  (bif ((x14l : Int) : Int) == 0 then
                    (bif (x7).isNone then
                      Q (.bool ((x8 : Int) == 110)) h_10
                    else
                      Q (.bool false) h_10)
                  else
                    Q (.bool false) h_10)
                else
                  Q (.bool false) h_9)
              else
                Q (.bool false) h_8)
            else
              Q (.bool false) h_4)
          else
            Q (.bool false) h_4)
        else
          Q (.bool false) h_4)
      else
        (bif (x2 : Int) == 1 then
          (bif (x4 : Int) == 1 then
            (bif (x6 : Int) == 1 then
              CallsH Tryz.prog 15 [.pointer none, .int .i64 part0] h_4 fun r11 h_11 =>
              DI .i64 r11 fun x15 =>
              (bif (x15 : Int) == 1 then
                CallsH Tryz.prog 20 [.pointer none] h_11 fun r12 h_12 =>
                DI .i64 r12 fun x16 =>
                (bif (x16 : Int) == 0 then
                  CallsH Tryz.prog 21 [.pointer none] h_12 fun r13 h_13 =>
                  DSl r13 fun x17a x17l x17c =>
                  (bif ((x17l : Int) : Int) == 0 then
                    (bif (x7).isNone then
                      Q (.bool ((x8 : Int) == 1)) h_13
                    else
                      Q (.bool false) h_13)
                  else
                    Q (.bool false) h_13)
                else
                  Q (.bool false) h_12)
              else
                Q (.bool false) h_11)
            else
              Q (.bool false) h_4)
          else
            Q (.bool false) h_4)
        else
          Q (.bool false) h_4))))
theorem F6_eq : (fun (part0 : Int) (most0 : Int) (l_0a : Option Addr) (l_0l : Nat) (l_0c : Nat) (parts0 : Int) (h : Heap) (Q : Value → Heap → Prop) => fnPT Tryz.prog Tryz.f6 (fun _ => annNil) (fun _ => []) (fun _ => none) [.int .i64 part0, .int .i64 most0, .slice l_0a l_0l l_0c, .int .i64 parts0] h Q) = F6 := by kernel_rfl
theorem F6_ok {part0 : Int} {most0 : Int} {l_0a : Option Addr} {l_0l : Nat} {l_0c : Nat} {parts0 : Int} {h : Heap} {Q : Value → Heap → Prop} (H : F6 part0 most0 l_0a l_0l l_0c parts0 h Q) : CallsH Tryz.prog 6 [.int .i64 part0, .int .i64 most0, .slice l_0a l_0l l_0c, .int .i64 parts0] h Q :=
  callsH_of (ann := fun _ => annNil) (tys := fun _ => []) (pl := fun _ => none) Tryz.func6 (by kernel_rfl) (by have e := F6_eq; exact (congrFun (congrFun (congrFun (congrFun (congrFun (congrFun (congrFun (congrFun (e) part0) most0) l_0a) l_0l) l_0c) parts0) h) Q).symm ▸ H)

/-- headgate/headgatelaw11.alive -/
def F8 (h : Heap) (Q : Value → Heap → Prop) : Prop :=
  Al h (.cells #[.int .i64 5, .int .i64 1, .int .i64 9] 3) fun b0 h_0 =>
  CallsH Tryz.prog 11 [.slice (some (Addr.mk b0 0 none)) 3 3, .int .i64 7] h_0 fun r1 h_1 =>
  DSl r1 fun l_0a l_0l l_0c =>
  CallsH Tryz.prog 12 [.int .i64 1000] h_1 fun r2 h_2 =>
  ∃ (x0 : Option Addr), ∃ (x1 : Int), r2 = .tuple #[.pointer x0, .int .i64 x1] ∧
  (bif (x1 : Int) != 0 then
    Q (.bool false) h_2
  else
    (bif ((l_0l : Int) : Int) != 3 then
      Q (.bool false) h_2
    else
      IdxA l_0a l_0l 0 1 fun a0 =>
      Ld h_2 a0 fun v0 => DI .i64 v0 fun x2 =>
      (bif (x2 : Int) != 3 then
        Q (.bool false) h_2
      else
        IdxA l_0a l_0l 1 1 fun a1 =>
        Ld h_2 a1 fun v1 => DI .i64 v1 fun x3 =>
        (bif (x3 : Int) != 1 then
          Q (.bool false) h_2
        else
          IdxA l_0a l_0l 2 1 fun a2 =>
          Ld h_2 a2 fun v2 => DI .i64 v2 fun x4 =>
          (bif (x4 : Int) != 3 then
            Q (.bool false) h_2
          else
            CallsH Tryz.prog 13 [.pointer x0, .int .i64 2, .int .i64 100] h_2 fun r3 h_3 =>
            ∃ (x5 : Option Addr), ∃ (x6 : Int), r3 = .tuple #[.pointer x5, .int .i64 x6] ∧
            (bif (x6 : Int) != 0 then
              Q (.bool false) h_3
            else
              (bif (x5).isNone then
                Q (.bool false) h_3
              else
                Al h_3 (.cells #[.int .u8 120] 5) fun b1 h_4 =>
                RunH Tryz.prog (Go.convert 30 30 (.slice (some (Addr.mk b1 0 none)) 1 1)) h_4 fun r5 h_5 =>
                DSl r5 fun x7a x7l x7c =>
                CallsH Tryz.prog 14 [.pointer x5, .int .i64 1, .slice x7a x7l x7c] h_5 fun r6 h_6 =>
                ∃ (x8 : Int), ∃ (x9 : Int), r6 = .tuple #[.int .i64 x8, .int .i64 x9] ∧
                (bif (x9 : Int) == 0 then
                  CallsH Tryz.prog 15 [.pointer x5, .int .i64 1] h_6 fun r7 h_7 =>
                  DI .i64 r7 fun x10 =>
                  (bif (x10 : Int) == 0 then
                    (CallsH Tryz.prog 21 [.pointer x5] h_7 fun r8 h_8 =>
                    DSl r8 fun x11a x11l x11c =>
                    (SameV (some (.pointer x5)) (.pointer x5)) ∧
                    (SameV (some (.agg #[.int .i64 0, .int .i64 0])) (.agg #[.int .i64 0, .int .i64 0])) ∧
                    (SameV (some (.agg #[.int .i64 0, .int .i64 1])) (.agg #[.int .i64 0, .int .i64 1])) ∧
                    IdxA x11a x11l 0 1 fun a3 =>
                    Ld h_8 a3 fun v3 => DI .i64 v3 fun x12 =>
                    (CallsH Tryz.prog 21 [.pointer x5] h_8 fun r9 h_9 =>
                    DSl r9 fun x13a x13l x13c =>
                    (IdxA x11a x11l 0 1 fun a4 =>
                    SameV (some (.pointer (some a3))) (.pointer (some a4))) ∧
                    (Ld h_9 a3 fun v4 => DI .i64 v4 fun x14 =>
                    SameV (some (.int .i64 x12)) (.int .i64 x14)) ∧
                    (SameV (some (.agg #[.int .i64 0, .int .i64 x12])) (.agg #[.int .i64 0, .int .i64 x12])) ∧
                    (SameV (some (.agg #[.int .i64 0, .int .i64 0])) (.agg #[.int .i64 0, .int .i64 0])) ∧
                    (SameV (some (.agg #[.int .i64 0, .int .i64 1])) (.agg #[.int .i64 0, .int .i64 1])) ∧
                    IdxA x13a x13l 1 1 fun a5 =>
                    Ld h_9 a5 fun v5 => DI .i64 v5 fun x15 =>
                    (Al h_9 (.cells #[.int .i64 0, .int .i64 x12, .int .i64 0, .int .i64 x15] 86) fun b2 h_10 =>
                    (SameV (some (.agg #[.int .i64 0, .int .i64 0])) (.agg #[.int .i64 0, .int .i64 0])) ∧
                    (SameV (some (.agg #[.int .i64 0, .int .i64 1])) (.agg #[.int .i64 0, .int .i64 1])) ∧
                    Al h_10 (.cells #[.int .i64 0, .int .i64 0, .int .i64 0, .int .i64 1] 86) fun b3 h_11 =>
                    (SameV (some (.pointer x5)) (.pointer x5)) ∧
                    (IdxA x11a x11l 0 1 fun a6 =>
                    SameV (some (.pointer (some a3))) (.pointer (some a6))) ∧
                    (Ld h_11 a3 fun v6 => DI .i64 v6 fun x16 =>
                    SameV (some (.int .i64 x12)) (.int .i64 x16)) ∧
                    (SameV (some (.agg #[.int .i64 0, .int .i64 x12])) (.agg #[.int .i64 0, .int .i64 x12])) ∧
                    (SameV (some (.pointer x5)) (.pointer x5)) ∧
                    (IdxA x13a x13l 1 1 fun a7 =>
                    SameV (some (.pointer (some a5))) (.pointer (some a7))) ∧
                    (Ld h_11 a5 fun v7 => DI .i64 v7 fun x17 =>
                    SameV (some (.int .i64 x15)) (.int .i64 x17)) ∧
                    (SameV (some (.agg #[.int .i64 0, .int .i64 x15])) (.agg #[.int .i64 0, .int .i64 x15])) ∧
                    CallsH Tryz.prog 28 [.slice (some (Addr.mk b2 0 none)) 2 2, .slice (some (Addr.mk b3 0 none)) 2 2] h_11 fun r12 h_12 =>
                    DB r12 fun x18 =>
                    Q (.bool x18) h_12) ∧
                    (Al h_9 (.cells #[.int .i64 0, .int .i64 0, .int .i64 0, .int .i64 1] 86) fun b4 h_13 =>
                    (SameV (some (.pointer x5)) (.pointer x5)) ∧
                    (IdxA x11a x11l 0 1 fun a8 =>
                    SameV (some (.pointer (some a3))) (.pointer (some a8))) ∧
                    (Ld h_13 a3 fun v8 => DI .i64 v8 fun x19 =>
                    SameV (some (.int .i64 x12)) (.int .i64 x19)) ∧
                    (SameV (some (.agg #[.int .i64 0, .int .i64 x12])) (.agg #[.int .i64 0, .int .i64 x12])) ∧
                    (SameV (some (.pointer x5)) (.pointer x5)) ∧
                    (IdxA x13a x13l 1 1 fun a9 =>
                    SameV (some (.pointer (some a5))) (.pointer (some a9))) ∧
                    (Ld h_13 a5 fun v9 => DI .i64 v9 fun x20 =>
                    SameV (some (.int .i64 x15)) (.int .i64 x20)) ∧
                    (SameV (some (.agg #[.int .i64 0, .int .i64 x15])) (.agg #[.int .i64 0, .int .i64 x15])) ∧
                    Al h_13 (.cells #[.int .i64 0, .int .i64 x12, .int .i64 0, .int .i64 x15] 86) fun b5 h_14 =>
                    (SameV (some (.agg #[.int .i64 0, .int .i64 0])) (.agg #[.int .i64 0, .int .i64 0])) ∧
                    (SameV (some (.agg #[.int .i64 0, .int .i64 1])) (.agg #[.int .i64 0, .int .i64 1])) ∧
                    CallsH Tryz.prog 28 [.slice (some (Addr.mk b5 0 none)) 2 2, .slice (some (Addr.mk b4 0 none)) 2 2] h_14 fun r15 h_15 =>
                    DB r15 fun x21 =>
                    Q (.bool x21) h_15)) ∧
                    (Al h_8 (.cells #[.int .i64 0, .int .i64 0, .int .i64 0, .int .i64 1] 86) fun b6 h_16 =>
                    (SameV (some (.pointer x5)) (.pointer x5)) ∧
                    (IdxA x11a x11l 0 1 fun a10 =>
                    SameV (some (.pointer (some a3))) (.pointer (some a10))) ∧
                    (Ld h_16 a3 fun v10 => DI .i64 v10 fun x22 =>
                    SameV (some (.int .i64 x12)) (.int .i64 x22)) ∧
                    (SameV (some (.agg #[.int .i64 0, .int .i64 x12])) (.agg #[.int .i64 0, .int .i64 x12])) ∧
                    (SameV (some (.pointer x5)) (.pointer x5)) ∧
                    CallsH Tryz.prog 21 [.pointer x5] h_16 fun r17 h_17 =>
                    DSl r17 fun x23a x23l x23c =>
                    (IdxA x11a x11l 0 1 fun a11 =>
                    SameV (some (.pointer (some a3))) (.pointer (some a11))) ∧
                    (Ld h_17 a3 fun v11 => DI .i64 v11 fun x24 =>
                    SameV (some (.int .i64 x12)) (.int .i64 x24)) ∧
                    (SameV (some (.agg #[.int .i64 0, .int .i64 x12])) (.agg #[.int .i64 0, .int .i64 x12])) ∧
                    (SameV (some (.agg #[.int .i64 0, .int .i64 0])) (.agg #[.int .i64 0, .int .i64 0])) ∧
                    (SameV (some (.agg #[.int .i64 0, .int .i64 1])) (.agg #[.int .i64 0, .int .i64 1])) ∧
                    IdxA x23a x23l 1 1 fun a12 =>
                    Ld h_17 a12 fun v12 => DI .i64 v12 fun x25 =>
                    Al h_17 (.cells #[.int .i64 0, .int .i64 x12, .int .i64 0, .int .i64 x25] 86) fun b7 h_18 =>
                    (SameV (some (.agg #[.int .i64 0, .int .i64 0])) (.agg #[.int .i64 0, .int .i64 0])) ∧
                    (SameV (some (.agg #[.int .i64 0, .int .i64 1])) (.agg #[.int .i64 0, .int .i64 1])) ∧
                    CallsH Tryz.prog 28 [.slice (some (Addr.mk b7 0 none)) 2 2, .slice (some (Addr.mk b6 0 none)) 2 2] h_18 fun r19 h_19 =>
                    DB r19 fun x26 =>
                    Q (.bool x26) h_19)) ∧
                    (Al h_7 (.cells #[.int .i64 0, .int .i64 0, .int .i64 0, .int .i64 1] 86) fun b8 h_20 =>
                    (SameV (some (.pointer x5)) (.pointer x5)) ∧
                    (SameV (some (.pointer x5)) (.pointer x5)) ∧
                    CallsH Tryz.prog 21 [.pointer x5] h_20 fun r21 h_21 =>
                    DSl r21 fun x27a x27l x27c =>
                    (SameV (some (.pointer x5)) (.pointer x5)) ∧
                    (SameV (some (.agg #[.int .i64 0, .int .i64 0])) (.agg #[.int .i64 0, .int .i64 0])) ∧
                    (SameV (some (.agg #[.int .i64 0, .int .i64 1])) (.agg #[.int .i64 0, .int .i64 1])) ∧
                    IdxA x27a x27l 0 1 fun a13 =>
                    Ld h_21 a13 fun v13 => DI .i64 v13 fun x28 =>
                    CallsH Tryz.prog 21 [.pointer x5] h_21 fun r22 h_22 =>
                    DSl r22 fun x29a x29l x29c =>
                    (IdxA x27a x27l 0 1 fun a14 =>
                    SameV (some (.pointer (some a13))) (.pointer (some a14))) ∧
                    (Ld h_22 a13 fun v14 => DI .i64 v14 fun x30 =>
                    SameV (some (.int .i64 x28)) (.int .i64 x30)) ∧
                    (SameV (some (.agg #[.int .i64 0, .int .i64 x28])) (.agg #[.int .i64 0, .int .i64 x28])) ∧
                    (SameV (some (.agg #[.int .i64 0, .int .i64 0])) (.agg #[.int .i64 0, .int .i64 0])) ∧
                    (SameV (some (.agg #[.int .i64 0, .int .i64 1])) (.agg #[.int .i64 0, .int .i64 1])) ∧
                    IdxA x29a x29l 1 1 fun a15 =>
                    Ld h_22 a15 fun v15 => DI .i64 v15 fun x31 =>
                    Al h_22 (.cells #[.int .i64 0, .int .i64 x28, .int .i64 0, .int .i64 x31] 86) fun b9 h_23 =>
                    (SameV (some (.agg #[.int .i64 0, .int .i64 0])) (.agg #[.int .i64 0, .int .i64 0])) ∧
                    (SameV (some (.agg #[.int .i64 0, .int .i64 1])) (.agg #[.int .i64 0, .int .i64 1])) ∧
                    CallsH Tryz.prog 28 [.slice (some (Addr.mk b9 0 none)) 2 2, .slice (some (Addr.mk b8 0 none)) 2 2] h_23 fun r24 h_24 =>
                    DB r24 fun x32 =>
                    Q (.bool x32) h_24)
                  else
                    ((SameV (some (.tuple #[])) (.tuple #[])) ∧
                    (SameV (some (.tuple #[])) (.tuple #[])) ∧
                    (SameV (some (.tuple #[])) (.tuple #[])) ∧
                    ((SameV (some (.tuple #[])) (.tuple #[])) ∧
                    (SameV (some (.tuple #[])) (.tuple #[])) ∧
                    (SameV (some (.tuple #[])) (.tuple #[])) ∧
                    (SameV (some (.tuple #[])) (.tuple #[])) ∧
                    (SameV (some (.tuple #[])) (.tuple #[])) ∧
                    ((SameV (some (.tuple #[])) (.tuple #[])) ∧
                    (SameV (some (.tuple #[])) (.tuple #[])) ∧
                    (SameV (some (.tuple #[])) (.tuple #[])) ∧
                    (SameV (some (.tuple #[])) (.tuple #[])) ∧
                    (SameV (some (.tuple #[])) (.tuple #[])) ∧
                    (SameV (some (.tuple #[])) (.tuple #[])) ∧
                    (SameV (some (.tuple #[])) (.tuple #[])) ∧
                    (SameV (some (.tuple #[])) (.tuple #[])) ∧
                    (SameV (some (.tuple #[])) (.tuple #[])) ∧
                    (SameV (some (.tuple #[])) (.tuple #[])) ∧
                    Q (.bool false) h_7) ∧
                    ((SameV (some (.tuple #[])) (.tuple #[])) ∧
                    (SameV (some (.tuple #[])) (.tuple #[])) ∧
                    (SameV (some (.tuple #[])) (.tuple #[])) ∧
                    (SameV (some (.tuple #[])) (.tuple #[])) ∧
                    (SameV (some (.tuple #[])) (.tuple #[])) ∧
                    (SameV (some (.tuple #[])) (.tuple #[])) ∧
                    (SameV (some (.tuple #[])) (.tuple #[])) ∧
                    (SameV (some (.tuple #[])) (.tuple #[])) ∧
                    (SameV (some (.tuple #[])) (.tuple #[])) ∧
                    (SameV (some (.tuple #[])) (.tuple #[])) ∧
                    Q (.bool false) h_7)) ∧
                    ((SameV (some (.tuple #[])) (.tuple #[])) ∧
                    (SameV (some (.tuple #[])) (.tuple #[])) ∧
                    (SameV (some (.tuple #[])) (.tuple #[])) ∧
                    (SameV (some (.tuple #[])) (.tuple #[])) ∧
                    (SameV (some (.tuple #[])) (.tuple #[])) ∧
                    (SameV (some (.tuple #[])) (.tuple #[])) ∧
                    (SameV (some (.tuple #[])) (.tuple #[])) ∧
                    (SameV (some (.tuple #[])) (.tuple #[])) ∧
                    (SameV (some (.tuple #[])) (.tuple #[])) ∧
                    (SameV (some (.tuple #[])) (.tuple #[])) ∧
                    (SameV (some (.tuple #[])) (.tuple #[])) ∧
                    (SameV (some (.tuple #[])) (.tuple #[])) ∧
                    Q (.bool false) h_7)) ∧
                    ((SameV (some (.tuple #[])) (.tuple #[])) ∧
                    (SameV (some (.tuple #[])) (.tuple #[])) ∧
                    (SameV (some (.tuple #[])) (.tuple #[])) ∧
                    (SameV (some (.tuple #[])) (.tuple #[])) ∧
                    (SameV (some (.tuple #[])) (.tuple #[])) ∧
                    (SameV (some (.tuple #[])) (.tuple #[])) ∧
                    (SameV (some (.tuple #[])) (.tuple #[])) ∧
                    (SameV (some (.tuple #[])) (.tuple #[])) ∧
                    (SameV (some (.tuple #[])) (.tuple #[])) ∧
                    (SameV (some (.tuple #[])) (.tuple #[])) ∧
                    (SameV (some (.tuple #[])) (.tuple #[])) ∧
                    (SameV (some (.tuple #[])) (.tuple #[])) ∧
                    Q (.bool false) h_7))
                else
                  ((SameV (some (.tuple #[])) (.tuple #[])) ∧
                  (SameV (some (.tuple #[])) (.tuple #[])) ∧
                  (SameV (some (.tuple #[])) (.tuple #[])) ∧
                  ((SameV (some (.tuple #[])) (.tuple #[])) ∧
                  (SameV (some (.tuple #[])) (.tuple #[])) ∧
                  (SameV (some (.tuple #[])) (.tuple #[])) ∧
                  (SameV (some (.tuple #[])) (.tuple #[])) ∧
                  (SameV (some (.tuple #[])) (.tuple #[])) ∧
                  ((SameV (some (.tuple #[])) (.tuple #[])) ∧
                  (SameV (some (.tuple #[])) (.tuple #[])) ∧
                  (SameV (some (.tuple #[])) (.tuple #[])) ∧
                  (SameV (some (.tuple #[])) (.tuple #[])) ∧
                  (SameV (some (.tuple #[])) (.tuple #[])) ∧
                  (SameV (some (.tuple #[])) (.tuple #[])) ∧
                  (SameV (some (.tuple #[])) (.tuple #[])) ∧
                  (SameV (some (.tuple #[])) (.tuple #[])) ∧
                  (SameV (some (.tuple #[])) (.tuple #[])) ∧
                  (SameV (some (.tuple #[])) (.tuple #[])) ∧
                  Q (.bool false) h_6) ∧
                  ((SameV (some (.tuple #[])) (.tuple #[])) ∧
                  (SameV (some (.tuple #[])) (.tuple #[])) ∧
                  (SameV (some (.tuple #[])) (.tuple #[])) ∧
                  (SameV (some (.tuple #[])) (.tuple #[])) ∧
                  (SameV (some (.tuple #[])) (.tuple #[])) ∧
                  (SameV (some (.tuple #[])) (.tuple #[])) ∧
                  (SameV (some (.tuple #[])) (.tuple #[])) ∧
                  (SameV (some (.tuple #[])) (.tuple #[])) ∧
                  (SameV (some (.tuple #[])) (.tuple #[])) ∧
                  (SameV (some (.tuple #[])) (.tuple #[])) ∧
                  Q (.bool false) h_6)) ∧
                  ((SameV (some (.tuple #[])) (.tuple #[])) ∧
                  (SameV (some (.tuple #[])) (.tuple #[])) ∧
                  (SameV (some (.tuple #[])) (.tuple #[])) ∧
                  (SameV (some (.tuple #[])) (.tuple #[])) ∧
                  (SameV (some (.tuple #[])) (.tuple #[])) ∧
                  (SameV (some (.tuple #[])) (.tuple #[])) ∧
                  (SameV (some (.tuple #[])) (.tuple #[])) ∧
                  (SameV (some (.tuple #[])) (.tuple #[])) ∧
                  (SameV (some (.tuple #[])) (.tuple #[])) ∧
                  (SameV (some (.tuple #[])) (.tuple #[])) ∧
                  (SameV (some (.tuple #[])) (.tuple #[])) ∧
                  (SameV (some (.tuple #[])) (.tuple #[])) ∧
                  Q (.bool false) h_6)) ∧
                  ((SameV (some (.tuple #[])) (.tuple #[])) ∧
                  (SameV (some (.tuple #[])) (.tuple #[])) ∧
                  (SameV (some (.tuple #[])) (.tuple #[])) ∧
                  (SameV (some (.tuple #[])) (.tuple #[])) ∧
                  (SameV (some (.tuple #[])) (.tuple #[])) ∧
                  (SameV (some (.tuple #[])) (.tuple #[])) ∧
                  (SameV (some (.tuple #[])) (.tuple #[])) ∧
                  (SameV (some (.tuple #[])) (.tuple #[])) ∧
                  (SameV (some (.tuple #[])) (.tuple #[])) ∧
                  (SameV (some (.tuple #[])) (.tuple #[])) ∧
                  (SameV (some (.tuple #[])) (.tuple #[])) ∧
                  (SameV (some (.tuple #[])) (.tuple #[])) ∧
                  Q (.bool false) h_6)))))))))
theorem F8_eq : (fun (h : Heap) (Q : Value → Heap → Prop) => fnPT Tryz.prog Tryz.f8 (fun _ => annNil) (fun _ => []) (fun i => bif Nat.beq i 9 then some ⟨[0, 1, 3, 7, 15, 31, 63, 127, 255, 511, 1023, 2047, 4095, 255, 9215, 25599, 58367, 123903, 262143, 255, 255, 1573119, 4194303, 8388607, 16777215], 6570512⟩ else none) [] h Q) = F8 := by kernel_rfl
theorem F8_ok {h : Heap} {Q : Value → Heap → Prop} (H : F8 h Q) : CallsH Tryz.prog 8 [] h Q :=
  callsH_of (ann := fun _ => annNil) (tys := fun _ => []) (pl := fun i => bif Nat.beq i 9 then some ⟨[0, 1, 3, 7, 15, 31, 63, 127, 255, 511, 1023, 2047, 4095, 255, 9215, 25599, 58367, 123903, 262143, 255, 255, 1573119, 4194303, 8388607, 16777215], 6570512⟩ else none) Tryz.func8 (by kernel_rfl) (by have e := F8_eq; exact (congrFun (congrFun (e) h) Q).symm ▸ H)

/-- headgate/source.Deal[int] -/
def F11 (heaps0a : Option Addr) (heaps0l : Nat) (heaps0c : Nat) (most0 : Int) (h : Heap) (Q : Value → Heap → Prop) : Prop :=
  RunH Tryz.prog (Instr.makeSlice 27 (.int .i64 (heaps0l : Int)) (.int .i64 (heaps0l : Int))) h fun r0 h_0 =>
  DSl r0 fun out0a out0l out0c =>
  LoopH (fun again0 (s0 : Int) h_1 =>
    (bif decide ((s0 : Int) > 0) then
      LoopH (fun again1 (s1 : Int × Int × Int) h_2 =>
        (bif decide ((s1.2.2 : Int) < (heaps0l : Int)) then
          IdxA heaps0a heaps0l s1.2.2 1 fun a0 =>
          Ld h_2 a0 fun v0 => DI .i64 v0 fun h_3 =>
          IdxA out0a out0l s1.2.2 1 fun a1 =>
          Ld h_2 a1 fun v1 => DI .i64 v1 fun x0 =>
          (bif decide ((h_3 : Int) > 0) then
            (bif decide (((IntKind.wrap .i64 (h_3 - x0)) : Int) > 0) then
              again1 (IntKind.wrap .i64 (s1.1 + 1), if ((IntKind.wrap .i64 (h_3 - x0)) : Int) < s1.2.1 then (IntKind.wrap .i64 (h_3 - x0)) else s1.2.1, IntKind.wrap .i64 (s1.2.2 + 1)) h_2
            else
              again1 (s1.1, s1.2.1, IntKind.wrap .i64 (s1.2.2 + 1)) h_2)
          else
            again1 (s1.1, s1.2.1, IntKind.wrap .i64 (s1.2.2 + 1)) h_2)
        else
          (bif (s1.1 : Int) == 0 then
            Q (.slice out0a out0l out0c) h_2
          else
            (s1.1 : Int) ≠ 0 ∧
            LoopH (fun again2 (s2 : Int × Int) h_4 =>
              (bif decide ((s2.2 : Int) < (heaps0l : Int)) then
                IdxA heaps0a heaps0l s2.2 1 fun a2 =>
                Ld h_4 a2 fun v2 => DI .i64 v2 fun h_5 =>
                (bif decide ((h_5 : Int) > 0) then
                  IdxA out0a out0l s2.2 1 fun a3 =>
                  Ld h_4 a3 fun v3 => DI .i64 v3 fun x1 =>
                  (bif decide (((IntKind.wrap .i64 (h_5 - x1)) : Int) > 0) then
                    (bif decide ((s2.1 : Int) > 0) then
                      IdxA out0a out0l s2.2 1 fun a4 =>
                      Ld h_4 a4 fun v4 => DI .i64 v4 fun x2 =>
                      IdxA out0a out0l s2.2 1 fun a5 =>
                      StC h_4 (a5.add 0) (.int .i64 (IntKind.wrap .i64 (x2 + (if (1 : Int) > (if ((IntKind.wrap .i64 (Int.tdiv s0 s1.1)) : Int) < s1.2.1 then (IntKind.wrap .i64 (Int.tdiv s0 s1.1)) else s1.2.1) then 1 else (if ((IntKind.wrap .i64 (Int.tdiv s0 s1.1)) : Int) < s1.2.1 then (IntKind.wrap .i64 (Int.tdiv s0 s1.1)) else s1.2.1))))) fun h_7 =>
                      again2 (IntKind.wrap .i64 (s2.1 - (if (1 : Int) > (if ((IntKind.wrap .i64 (Int.tdiv s0 s1.1)) : Int) < s1.2.1 then (IntKind.wrap .i64 (Int.tdiv s0 s1.1)) else s1.2.1) then 1 else (if ((IntKind.wrap .i64 (Int.tdiv s0 s1.1)) : Int) < s1.2.1 then (IntKind.wrap .i64 (Int.tdiv s0 s1.1)) else s1.2.1))), IntKind.wrap .i64 (s2.2 + 1)) h_7
                    else
                      again2 (s2.1, IntKind.wrap .i64 (s2.2 + 1)) h_4)
                  else
                    again2 (s2.1, IntKind.wrap .i64 (s2.2 + 1)) h_4)
                else
                  again2 (s2.1, IntKind.wrap .i64 (s2.2 + 1)) h_4)
              else
                again0 s2.1 h_4)) (s0, 0) h_2))) (0, s0, 0) h_1
    else
      Q (.slice out0a out0l out0c) h_1)) most0 h_0
theorem F11_eq : (fun (heaps0a : Option Addr) (heaps0l : Nat) (heaps0c : Nat) (most0 : Int) (h : Heap) (Q : Value → Heap → Prop) => fnPT Tryz.prog Tryz.f11 (fun i => bif Nat.beq i 0 then annOne 1 (codI .i64) else bif Nat.beq i 2 then annCons 6 (codI .i64) (annCons 7 (codI .i64) (annOne 23 (codI .i64))) else bif Nat.beq i 4 then annCons 1 (codI .i64) (annOne 56 (codI .i64)) else annNil) (fun _ => []) (fun _ => none) [.slice heaps0a heaps0l heaps0c, .int .i64 most0] h Q) = F11 := by kernel_rfl
theorem F11_ok {heaps0a : Option Addr} {heaps0l : Nat} {heaps0c : Nat} {most0 : Int} {h : Heap} {Q : Value → Heap → Prop} (H : F11 heaps0a heaps0l heaps0c most0 h Q) : CallsH Tryz.prog 11 [.slice heaps0a heaps0l heaps0c, .int .i64 most0] h Q :=
  callsH_of (ann := fun i => bif Nat.beq i 0 then annOne 1 (codI .i64) else bif Nat.beq i 2 then annCons 6 (codI .i64) (annCons 7 (codI .i64) (annOne 23 (codI .i64))) else bif Nat.beq i 4 then annCons 1 (codI .i64) (annOne 56 (codI .i64)) else annNil) (tys := fun _ => []) (pl := fun _ => none) Tryz.func11 (by kernel_rfl) (by have e := F11_eq; exact (congrFun (congrFun (congrFun (congrFun (congrFun (congrFun (e) heaps0a) heaps0l) heaps0c) most0) h) Q).symm ▸ H)

/-- headgate/source.Open -/
def F13 (f0 : Option Addr) (parts0 : Int) (size0 : Int) (h : Heap) (Q : Value → Heap → Prop) : Prop :=
  (bif decide ((parts0 : Int) < 1) then
    Q (.tuple #[.pointer none, .int .i64 110]) h
  else
    (bif decide ((parts0 : Int) > 4) then
      Q (.tuple #[.pointer none, .int .i64 110]) h
    else
      Al h (.cells #[.pointer none, .pointer none, .pointer none, .pointer none, .int .i64 parts0] 93) fun b0 h_0 =>
      LoopH (fun again0 (s0 : Int) h_1 =>
        (bif decide ((s0 : Int) < parts0) then
          CallsH Tryz.prog 36 [.int .i64 s0] h_1 fun r1 h_2 =>
          DS r1 fun x0 =>
          (⟨#[112]⟩ : ByteArray).size + (x0 : ByteArray).size ≤ 9223372036854775807 ∧
          CallsH Tryz.prog 35 [.pointer f0, .string (⟨#[112]⟩ ++ x0), .int .i64 size0] h_2 fun r2 h_3 =>
          ∃ (x1 : Option Addr), ∃ (x2 : Int), r2 = .tuple #[.pointer x1, .int .i64 x2] ∧
          (bif (x2 : Int) != 0 then
            Q (.tuple #[.pointer none, .int .i64 x2]) h_3
          else
            0 ≤ (s0 : Int) ∧ (s0 : Int) < 4 ∧
            StC h_3 ((((Addr.mk b0 0 none).add 0).add ((s0 : Int).toNat * 1)).add 0) (.pointer x1) fun h_5 =>
            again0 (IntKind.wrap .i64 (s0 + 1)) h_5)
        else
          Q (.tuple #[.pointer (some (Addr.mk b0 0 none)), .int .i64 0]) h_1)) 0 h_0))
theorem F13_eq : (fun (f0 : Option Addr) (parts0 : Int) (size0 : Int) (h : Heap) (Q : Value → Heap → Prop) => fnPT Tryz.prog Tryz.f13 (fun i => bif Nat.beq i 0 then annOne 22 (codI .i64) else annNil) (fun _ => []) (fun _ => none) [.pointer f0, .int .i64 parts0, .int .i64 size0] h Q) = F13 := by kernel_rfl
theorem F13_ok {f0 : Option Addr} {parts0 : Int} {size0 : Int} {h : Heap} {Q : Value → Heap → Prop} (H : F13 f0 parts0 size0 h Q) : CallsH Tryz.prog 13 [.pointer f0, .int .i64 parts0, .int .i64 size0] h Q :=
  callsH_of (ann := fun i => bif Nat.beq i 0 then annOne 22 (codI .i64) else annNil) (tys := fun _ => []) (pl := fun _ => none) Tryz.func13 (by kernel_rfl) (by have e := F13_eq; exact (congrFun (congrFun (congrFun (congrFun (congrFun (e) f0) parts0) size0) h) Q).symm ▸ H)

/-- (*headgate/source.Source).Append -/
def F14 (s0 : Option Addr) (part0 : Int) (b0a : Option Addr) (b0l : Nat) (b0c : Nat) (h : Heap) (Q : Value → Heap → Prop) : Prop :=
  CallsH Tryz.prog 37 [.pointer s0, .int .i64 part0] h fun r0 h_0 =>
  ∃ (x0 : Option Addr), ∃ (x1 : Int), r0 = .tuple #[.pointer x0, .int .i64 x1] ∧
  (bif (x1 : Int) != 0 then
    Q (.tuple #[.int .i64 0, .int .i64 x1]) h_0
  else
    CallsH Tryz.prog 38 [.pointer x0, .slice b0a b0l b0c] h_0 fun r1 h_1 =>
    ∃ (x2 : Int), ∃ (x3 : Int), r1 = .tuple #[.int .i64 x2, .int .i64 x3] ∧
    Q (.tuple #[.int .i64 x2, .int .i64 x3]) h_1)
theorem F14_eq : (fun (s0 : Option Addr) (part0 : Int) (b0a : Option Addr) (b0l : Nat) (b0c : Nat) (h : Heap) (Q : Value → Heap → Prop) => fnPT Tryz.prog Tryz.f14 (fun _ => annNil) (fun _ => []) (fun _ => none) [.pointer s0, .int .i64 part0, .slice b0a b0l b0c] h Q) = F14 := by kernel_rfl
theorem F14_ok {s0 : Option Addr} {part0 : Int} {b0a : Option Addr} {b0l : Nat} {b0c : Nat} {h : Heap} {Q : Value → Heap → Prop} (H : F14 s0 part0 b0a b0l b0c h Q) : CallsH Tryz.prog 14 [.pointer s0, .int .i64 part0, .slice b0a b0l b0c] h Q :=
  callsH_of (ann := fun _ => annNil) (tys := fun _ => []) (pl := fun _ => none) Tryz.func14 (by kernel_rfl) (by have e := F14_eq; exact (congrFun (congrFun (congrFun (congrFun (congrFun (congrFun (congrFun (e) s0) part0) b0a) b0l) b0c) h) Q).symm ▸ H)

/-- (*headgate/source.Source).Sync -/
def F15 (s0 : Option Addr) (part0 : Int) (h : Heap) (Q : Value → Heap → Prop) : Prop :=
  CallsH Tryz.prog 37 [.pointer s0, .int .i64 part0] h fun r0 h_0 =>
  ∃ (x0 : Option Addr), ∃ (x1 : Int), r0 = .tuple #[.pointer x0, .int .i64 x1] ∧
  (bif (x1 : Int) != 0 then
    Q (.int .i64 x1) h_0
  else
    CallsH Tryz.prog 39 [.pointer x0] h_0 fun r1 h_1 =>
    DI .i64 r1 fun x2 =>
    Q (.int .i64 x2) h_1)
theorem F15_eq : (fun (s0 : Option Addr) (part0 : Int) (h : Heap) (Q : Value → Heap → Prop) => fnPT Tryz.prog Tryz.f15 (fun _ => annNil) (fun _ => []) (fun _ => none) [.pointer s0, .int .i64 part0] h Q) = F15 := by kernel_rfl
theorem F15_ok {s0 : Option Addr} {part0 : Int} {h : Heap} {Q : Value → Heap → Prop} (H : F15 s0 part0 h Q) : CallsH Tryz.prog 15 [.pointer s0, .int .i64 part0] h Q :=
  callsH_of (ann := fun _ => annNil) (tys := fun _ => []) (pl := fun _ => none) Tryz.func15 (by kernel_rfl) (by have e := F15_eq; exact (congrFun (congrFun (congrFun (congrFun (e) s0) part0) h) Q).symm ▸ H)

/-- (*headgate/source.Source).Plan -/
def F17 (s0 : Option Addr) (was0a : Option Addr) (was0l : Nat) (was0c : Nat) (most0 : Int) (h : Heap) (Q : Value → Heap → Prop) : Prop :=
  (bif (s0).isNone then
    Q (.tuple #[.slice none 0 0, .int .i64 1]) h
  else
    (bif decide ((most0 : Int) < 1) then
      Q (.tuple #[.slice none 0 0, .int .i64 2]) h
    else
      (bif decide ((most0 : Int) > 1024) then
        Q (.tuple #[.slice none 0 0, .int .i64 2]) h
      else
        CallsH Tryz.prog 40 [.pointer s0, .slice was0a was0l was0c] h fun r0 h_0 =>
        DI .i64 r0 fun e0 =>
        (bif (e0 : Int) != 0 then
          Q (.tuple #[.slice none 0 0, .int .i64 e0]) h_0
        else
          CallsH Tryz.prog 21 [.pointer s0] h_0 fun r1 h_1 =>
          DSl r1 fun left0a left0l left0c =>
          LoopH (fun again0 (s1 : Int) h_2 =>
            (bif decide ((s1 : Int) < (left0l : Int)) then
              IdxA left0a left0l s1 1 fun a0 =>
              Ld h_2 a0 fun v0 => DI .i64 v0 fun x0 =>
              IdxA was0a was0l s1 2 fun a1 =>
              Ld h_2 (a1.add 1) fun v1 => DI .i64 v1 fun x1 =>
              IdxA left0a left0l s1 1 fun a2 =>
              StC h_2 (a2.add 0) (.int .i64 (IntKind.wrap .i64 (x0 - x1))) fun h_4 =>
              again0 (IntKind.wrap .i64 (s1 + 1)) h_4
            else
              NN' s0 fun a3 =>
              Ld h_2 (a3.add 4) fun v2 => DI .i64 v2 fun x2 =>
              RunH Tryz.prog (Instr.makeSlice 42 (.int .i64 x2) (.int .i64 x2)) h_2 fun r3 h_5 =>
              DSl r3 fun l_0a l_0l l_0c =>
              CallsH Tryz.prog 9 [.slice left0a left0l left0c, .int .i64 most0] h_5 fun r4 h_6 =>
              DSl r4 fun x3a x3l x3c =>
              LoopH (fun again1 (s2 : Int) h_7 =>
                (bif decide ((s2 : Int) < (x3l : Int)) then
                  IdxA x3a x3l s2 1 fun a4 =>
                  Ld h_7 a4 fun v3 => DI .i64 v3 fun n0 =>
                  IdxA was0a was0l s2 2 fun a5 =>
                  Ld h_7 (a5.add 1) fun v4 => DI .i64 v4 fun x4 =>
                  IdxA was0a was0l s2 2 fun a6 =>
                  Ld h_7 (a6.add 1) fun v5 => DI .i64 v5 fun x5 =>
                  IdxA l_0a l_0l s2 2 fun a7 =>
                  StC h_7 (a7.add 0) (.int .i64 x4) fun h_9 =>
                  StC h_9 (a7.add 1) (.int .i64 (IntKind.wrap .i64 (x5 + n0))) fun h_10 =>
                  again1 (IntKind.wrap .i64 (s2 + 1)) h_10
                else
                  Q (.tuple #[.slice l_0a l_0l l_0c, .int .i64 0]) h_7)) 0 h_6)) 0 h_1))))
theorem F17_eq : (fun (s0 : Option Addr) (was0a : Option Addr) (was0l : Nat) (was0c : Nat) (most0 : Int) (h : Heap) (Q : Value → Heap → Prop) => fnPT Tryz.prog Tryz.f17 (fun i => bif Nat.beq i 1 then annOne 34 (codI .i64) else bif Nat.beq i 3 then annOne 58 (codI .i64) else annNil) (fun _ => []) (fun i => bif Nat.beq i 12 then some ⟨[0, 0, 3, 7, 0, 0, 48, 112, 240, 511, 1023, 2047], 2048⟩ else bif Nat.beq i 18 then some ⟨[0, 0, 0, 0, 12, 28, 60, 0, 0, 384, 896, 1920, 0, 8064, 16380, 32767, 65535], 65536⟩ else none) [.pointer s0, .slice was0a was0l was0c, .int .i64 most0] h Q) = F17 := by kernel_rfl
theorem F17_ok {s0 : Option Addr} {was0a : Option Addr} {was0l : Nat} {was0c : Nat} {most0 : Int} {h : Heap} {Q : Value → Heap → Prop} (H : F17 s0 was0a was0l was0c most0 h Q) : CallsH Tryz.prog 17 [.pointer s0, .slice was0a was0l was0c, .int .i64 most0] h Q :=
  callsH_of (ann := fun i => bif Nat.beq i 1 then annOne 34 (codI .i64) else bif Nat.beq i 3 then annOne 58 (codI .i64) else annNil) (tys := fun _ => []) (pl := fun i => bif Nat.beq i 12 then some ⟨[0, 0, 3, 7, 0, 0, 48, 112, 240, 511, 1023, 2047], 2048⟩ else bif Nat.beq i 18 then some ⟨[0, 0, 0, 0, 12, 28, 60, 0, 0, 384, 896, 1920, 0, 8064, 16380, 32767, 65535], 65536⟩ else none) Tryz.func17 (by kernel_rfl) (by have e := F17_eq; exact (congrFun (congrFun (congrFun (congrFun (congrFun (congrFun (congrFun (e) s0) was0a) was0l) was0c) most0) h) Q).symm ▸ H)

/-- (*headgate/source.Source).Read -/
def F19 (s0 : Option Addr) (l_0a : Option Addr) (l_0l : Nat) (l_0c : Nat) (h : Heap) (Q : Value → Heap → Prop) : Prop :=
  (bif (s0).isNone then
    Q (.tuple #[.slice none 0 0, .int .i64 1]) h
  else
    CallsH Tryz.prog 40 [.pointer s0, .slice l_0a l_0l l_0c] h fun r0 h_0 =>
    DI .i64 r0 fun e0 =>
    (bif (e0 : Int) != 0 then
      Q (.tuple #[.slice none 0 0, .int .i64 e0]) h_0
    else
      LoopH (fun again0 (s1 : Sl × Int) h_1 =>
        (bif decide ((s1.2 : Int) < (l_0l : Int)) then
          IdxA l_0a l_0l s1.2 2 fun a0 =>
          Ld h_1 (a0.add 0) fun c0 =>
          Ld h_1 (a0.add 1) fun c1 =>
          ∃ (x0 : Int), ∃ (x1 : Int), (Value.agg #[c0, c1]) = .agg #[.int .i64 x0, .int .i64 x1] ∧
          Al h_1 (.cells #[.int .i64 0, .int .i64 0] 86) fun b0 h_2 =>
          StC h_2 ((Addr.mk b0 0 none).add 0) (.int .i64 x0) fun h_4 =>
          StC h_4 ((Addr.mk b0 0 none).add 1) (.int .i64 x1) fun h_5 =>
          NN' s0 fun a1 =>
          0 ≤ (s1.2 : Int) ∧ (s1.2 : Int) < 4 ∧
          Ld h_5 ((a1.add 0).add ((s1.2 : Int).toNat * 1)) fun v0 => DP v0 fun x2 =>
          Ld h_5 ((Addr.mk b0 0 none).add 0) fun v1 => DI .i64 v1 fun x3 =>
          Ld h_5 ((Addr.mk b0 0 none).add 1) fun v2 => DI .i64 v2 fun x4 =>
          CallsH Tryz.prog 42 [.pointer x2, .int .i64 x3, .int .i64 x4] h_5 fun r3 h_6 =>
          ∃ (x5a : Option Addr), ∃ (x5l : Nat), ∃ (x5c : Nat), ∃ (x6 : Int), r3 = .tuple #[.slice x5a x5l x5c, .int .i64 x6] ∧
          (bif (x6 : Int) != 0 then
            Q (.tuple #[.slice none 0 0, .int .i64 x6]) h_6
          else
            LoopH (fun again1 (s2 : Sl × Int) h_7 =>
              (bif decide ((s2.2 : Int) < (x5l : Int)) then
                Ld h_7 ((Addr.mk b0 0 none).add 0) fun v3 => DI .i64 v3 fun x7 =>
                IdxA x5a x5l s2.2 1 fun a3 =>
                Ld h_7 a3 fun v4 => DSl v4 fun x8a x8l x8c =>
                Al h_7 (.cells #[.int .i64 s1.2, .int .i64 (IntKind.wrap .i64 (x7 + s2.2)), .slice x8a x8l x8c] 53) fun b1 h_8 =>
                (SameV (some (.slice s2.1.a s2.1.l s2.1.c)) (.slice s2.1.a s2.1.l s2.1.c)) ∧
                RunH Tryz.prog (Builtin.append_ #[49, 49] 49 #[.slice s2.1.a s2.1.l s2.1.c, .slice (some (Addr.mk b1 0 none)) 1 1]) h_8 fun r5 h_9 =>
                DSl r5 fun out0a out0l out0c =>
                again1 (⟨out0a, out0l, out0c⟩, IntKind.wrap .i64 (s2.2 + 1)) h_9
              else
                again0 (⟨s2.1.a, s2.1.l, s2.1.c⟩, IntKind.wrap .i64 (s1.2 + 1)) h_7)) (⟨s1.1.a, s1.1.l, s1.1.c⟩, 0) h_6)
        else
          Q (.tuple #[.slice s1.1.a s1.1.l s1.1.c, .int .i64 0]) h_1)) (⟨none, 0, 0⟩, 0) h_0))
theorem F19_eq : (fun (s0 : Option Addr) (l_0a : Option Addr) (l_0l : Nat) (l_0c : Nat) (h : Heap) (Q : Value → Heap → Prop) => fnPT Tryz.prog Tryz.f19 (fun i => bif Nat.beq i 0 then annCons 7 (codSl) (annOne 23 (codI .i64)) else bif Nat.beq i 2 then annCons 7 (codSl) (annOne 47 (codI .i64)) else annNil) (fun _ => []) (fun i => bif Nat.beq i 10 then some ⟨[0, 0, 1, 5, 15, 31, 0, 64, 0, 256, 1023, 2047, 4095, 4095, 8191, 32767], 1024⟩ else bif Nat.beq i 16 then some ⟨[0, 0, 0, 4, 0, 28, 0, 0, 192, 448, 1022, 2046, 4095, 8191], 6144⟩ else none) [.pointer s0, .slice l_0a l_0l l_0c] h Q) = F19 := by kernel_rfl
theorem F19_ok {s0 : Option Addr} {l_0a : Option Addr} {l_0l : Nat} {l_0c : Nat} {h : Heap} {Q : Value → Heap → Prop} (H : F19 s0 l_0a l_0l l_0c h Q) : CallsH Tryz.prog 19 [.pointer s0, .slice l_0a l_0l l_0c] h Q :=
  callsH_of (ann := fun i => bif Nat.beq i 0 then annCons 7 (codSl) (annOne 23 (codI .i64)) else bif Nat.beq i 2 then annCons 7 (codSl) (annOne 47 (codI .i64)) else annNil) (tys := fun _ => []) (pl := fun i => bif Nat.beq i 10 then some ⟨[0, 0, 1, 5, 15, 31, 0, 64, 0, 256, 1023, 2047, 4095, 4095, 8191, 32767], 1024⟩ else bif Nat.beq i 16 then some ⟨[0, 0, 0, 4, 0, 28, 0, 0, 192, 448, 1022, 2046, 4095, 8191], 6144⟩ else none) Tryz.func19 (by kernel_rfl) (by have e := F19_eq; exact (congrFun (congrFun (congrFun (congrFun (congrFun (congrFun (e) s0) l_0a) l_0l) l_0c) h) Q).symm ▸ H)

/-- (*headgate/source.Source).Parts -/
def F20 (s0 : Option Addr) (h : Heap) (Q : Value → Heap → Prop) : Prop :=
  (bif (s0).isNone then
    Q (.int .i64 0) h
  else
    NN' s0 fun a0 =>
    Ld h (a0.add 4) fun v0 => DI .i64 v0 fun x0 =>
    Q (.int .i64 x0) h)
theorem F20_eq : (fun (s0 : Option Addr) (h : Heap) (Q : Value → Heap → Prop) => fnPT Tryz.prog Tryz.f20 (fun _ => annNil) (fun _ => []) (fun _ => none) [.pointer s0] h Q) = F20 := by kernel_rfl
theorem F20_ok {s0 : Option Addr} {h : Heap} {Q : Value → Heap → Prop} (H : F20 s0 h Q) : CallsH Tryz.prog 20 [.pointer s0] h Q :=
  callsH_of (ann := fun _ => annNil) (tys := fun _ => []) (pl := fun _ => none) Tryz.func20 (by kernel_rfl) (by have e := F20_eq; exact (congrFun (congrFun (congrFun (e) s0) h) Q).symm ▸ H)

/-- (*headgate/source.Source).Ends -/
def F21 (s0 : Option Addr) (h : Heap) (Q : Value → Heap → Prop) : Prop :=
  (bif (s0).isNone then
    Q (.slice none 0 0) h
  else
    NN' s0 fun a0 =>
    Ld h (a0.add 4) fun v0 => DI .i64 v0 fun x0 =>
    RunH Tryz.prog (Instr.makeSlice 22 (.int .i64 x0) (.int .i64 x0)) h fun r0 h_0 =>
    DSl r0 fun l_0a l_0l l_0c =>
    LoopH (fun again0 (s1 : Int) h_1 =>
      (bif decide ((s1 : Int) < (l_0l : Int)) then
        NN' s0 fun a1 =>
        0 ≤ (s1 : Int) ∧ (s1 : Int) < 4 ∧
        Ld h_1 ((a1.add 0).add ((s1 : Int).toNat * 1)) fun v1 => DP v1 fun x1 =>
        CallsH Tryz.prog 43 [.pointer x1] h_1 fun r1 h_2 =>
        DI .i64 r1 fun x2 =>
        IdxA l_0a l_0l s1 1 fun a3 =>
        StC h_2 (a3.add 0) (.int .i64 x2) fun h_4 =>
        again0 (IntKind.wrap .i64 (s1 + 1)) h_4
      else
        Q (.slice l_0a l_0l l_0c) h_1)) 0 h_0)
theorem F21_eq : (fun (s0 : Option Addr) (h : Heap) (Q : Value → Heap → Prop) => fnPT Tryz.prog Tryz.f21 (fun i => bif Nat.beq i 0 then annOne 14 (codI .i64) else annNil) (fun _ => []) (fun _ => none) [.pointer s0] h Q) = F21 := by kernel_rfl
theorem F21_ok {s0 : Option Addr} {h : Heap} {Q : Value → Heap → Prop} (H : F21 s0 h Q) : CallsH Tryz.prog 21 [.pointer s0] h Q :=
  callsH_of (ann := fun i => bif Nat.beq i 0 then annOne 14 (codI .i64) else annNil) (tys := fun _ => []) (pl := fun _ => none) Tryz.func21 (by kernel_rfl) (by have e := F21_eq; exact (congrFun (congrFun (congrFun (e) s0) h) Q).symm ▸ H)

/-- (*headgate/source.Source).log -/
def F37 (s0 : Option Addr) (part0 : Int) (h : Heap) (Q : Value → Heap → Prop) : Prop :=
  (bif (s0).isNone then
    Q (.tuple #[.pointer none, .int .i64 1]) h
  else
    (bif decide ((part0 : Int) < 0) then
      Q (.tuple #[.pointer none, .int .i64 110]) h
    else
      NN' s0 fun a0 =>
      Ld h (a0.add 4) fun v0 => DI .i64 v0 fun x0 =>
      (bif decide ((part0 : Int) ≥ x0) then
        Q (.tuple #[.pointer none, .int .i64 110]) h
      else
        NN' s0 fun a1 =>
        0 ≤ (part0 : Int) ∧ (part0 : Int) < 4 ∧
        Ld h ((a1.add 0).add ((part0 : Int).toNat * 1)) fun v1 => DP v1 fun x1 =>
        Q (.tuple #[.pointer x1, .int .i64 0]) h)))
theorem F37_eq : (fun (s0 : Option Addr) (part0 : Int) (h : Heap) (Q : Value → Heap → Prop) => fnPT Tryz.prog Tryz.f37 (fun _ => annNil) (fun _ => []) (fun _ => none) [.pointer s0, .int .i64 part0] h Q) = F37 := by kernel_rfl
theorem F37_ok {s0 : Option Addr} {part0 : Int} {h : Heap} {Q : Value → Heap → Prop} (H : F37 s0 part0 h Q) : CallsH Tryz.prog 37 [.pointer s0, .int .i64 part0] h Q :=
  callsH_of (ann := fun _ => annNil) (tys := fun _ => []) (pl := fun _ => none) Tryz.func37 (by kernel_rfl) (by have e := F37_eq; exact (congrFun (congrFun (congrFun (congrFun (e) s0) part0) h) Q).symm ▸ H)

/-- headgate/headgateref08.Same -/
def F28 (a0a : Option Addr) (a0l : Nat) (a0c : Nat) (b0a : Option Addr) (b0l : Nat) (b0c : Nat) (h : Heap) (Q : Value → Heap → Prop) : Prop :=
  (bif ((a0l : Int) : Int) != (b0l : Int) then
    Q (.bool false) h
  else
    LoopH (fun again0 (s0 : Int) h_0 =>
      (bif decide ((s0 : Int) < (a0l : Int)) then
        IdxA a0a a0l s0 2 fun a1 =>
        Ld h_0 (a1.add 0) fun c0 =>
        Ld h_0 (a1.add 1) fun c1 =>
        ∃ (x0 : Int), ∃ (x1 : Int), (Value.agg #[c0, c1]) = .agg #[.int .i64 x0, .int .i64 x1] ∧
        IdxA b0a b0l s0 2 fun a2 =>
        Ld h_0 (a2.add 0) fun c2 =>
        Ld h_0 (a2.add 1) fun c3 =>
        ∃ (x2 : Int), ∃ (x3 : Int), (Value.agg #[c2, c3]) = .agg #[.int .i64 x2, .int .i64 x3] ∧
        (bif !(((x0 : Int) == x2) && (((x1 : Int) == x3) && true)) then
          Q (.bool false) h_0
        else
          again0 (IntKind.wrap .i64 (s0 + 1)) h_0)
      else
        Q (.bool true) h_0)) 0 h)
theorem F28_eq : (fun (a0a : Option Addr) (a0l : Nat) (a0c : Nat) (b0a : Option Addr) (b0l : Nat) (b0c : Nat) (h : Heap) (Q : Value → Heap → Prop) => fnPT Tryz.prog Tryz.f28 (fun i => bif Nat.beq i 0 then annOne 5 (codI .i64) else annNil) (fun _ => []) (fun _ => none) [.slice a0a a0l a0c, .slice b0a b0l b0c] h Q) = F28 := by kernel_rfl
theorem F28_ok {a0a : Option Addr} {a0l : Nat} {a0c : Nat} {b0a : Option Addr} {b0l : Nat} {b0c : Nat} {h : Heap} {Q : Value → Heap → Prop} (H : F28 a0a a0l a0c b0a b0l b0c h Q) : CallsH Tryz.prog 28 [.slice a0a a0l a0c, .slice b0a b0l b0c] h Q :=
  callsH_of (ann := fun i => bif Nat.beq i 0 then annOne 5 (codI .i64) else annNil) (tys := fun _ => []) (pl := fun _ => none) Tryz.func28 (by kernel_rfl) (by have e := F28_eq; exact (congrFun (congrFun (congrFun (congrFun (congrFun (congrFun (congrFun (congrFun (e) a0a) a0l) a0c) b0a) b0l) b0c) h) Q).symm ▸ H)

end Go.Proofs.YticjjdhaikbdaaaGreatDoor
