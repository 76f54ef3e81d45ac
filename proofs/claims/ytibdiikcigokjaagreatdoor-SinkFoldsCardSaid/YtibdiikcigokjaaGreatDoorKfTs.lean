/- The texts over heaps of functions of the program: written by a program of this claim's writer (decomp.py); Lean checks each against the code. -/
import Derived.Test.YtibdiikcigokjaaGreatDoorKfFwE
import Derived.Test.YtibdiikcigokjaaGreatDoorProg
namespace Go.Proofs.YtibdiikcigokjaaGreatDoor
open Go Go.RowKit
set_option linter.unusedVariables false
set_option maxRecDepth 100000

/-- headgate/headgatelaw24.SinkFolds -/
def F4 (l_0a : Option Addr) (l_0l : Nat) (l_0c : Nat) (folds0 : Int) (h : Heap) (Q : Value → Heap → Prop) : Prop :=
 CallsH Tryz.prog 7 [] h fun r0 h_0 =>
 DB r0 fun x0 =>
 (bif !x0 then
  Q (.bool false) h_0
 else
  (bif decide (((l_0l : Int) : Int) > 12) then
   Q (.bool true) h_0
  else
   CallsH Tryz.prog 14 [.int .i64 16777216] h_0 fun r1 h_1 =>
   ∃ (x1 : Option Addr), ∃ (x2 : Int), r1 = .tuple #[.pointer x1, .int .i64 x2] ∧
   CallsH Tryz.prog 10 [.pointer x1, .int .i64 2] h_1 fun r2 h_2 =>
   ∃ (x3 : Option Addr), ∃ (x4 : Int), r2 = .tuple #[.pointer x3, .int .i64 x4] ∧
   (bif (x4 : Int) != 0 then
    Q (.bool false) h_2
   else
    LoopH (fun again0 (s0 : Int) h_3 =>
     (bif decide ((s0 : Int) < (l_0l : Int)) then
      IdxA l_0a l_0l s0 1 fun a0 =>
      Ld h_3 a0 fun v0 => DSl v0 fun x5a x5l x5c =>
      CallsH Tryz.prog 15 [.slice x5a x5l x5c] h_3 fun r3 h_4 =>
      DB r3 fun x6 =>
      (bif x6 then
       Q (.bool true) h_4
      else
       IdxA l_0a l_0l s0 1 fun a1 =>
       Ld h_4 a1 fun v1 => DSl v1 fun x7a x7l x7c =>
       CallsH Tryz.prog 12 [.pointer x3, .int .i64 s0, .slice x7a x7l x7c] h_4 fun r4 h_5 =>
       DI .i64 r4 fun e0 =>
       (bif (e0 : Int) == 41 then
        Q (.bool true) h_5
       else
        (bif (e0 : Int) != 0 then
         Q (.bool false) h_5
        else
         0 ≤ ((IntKind.wrap .u64 s0) : Int) ∧
         (bif ((bitsI .and .u16 (shrI .u16 folds0 (IntKind.wrap .u64 s0)) 1) : Int) == 1 then
          CallsH Tryz.prog 13 [.pointer x3] h_5 fun r5 h_6 =>
          DI .i64 r5 fun x8 =>
          (bif (x8 : Int) != 0 then
           Q (.bool false) h_6
          else
           CallsH Tryz.prog 16 [.pointer x1, .string ⟨#[109, 97, 110]⟩] h_6 fun r6 h_7 =>
           ∃ (x9a : Option Addr), ∃ (x9l : Nat), ∃ (x9c : Nat), ∃ (x10 : Int), r6 = .tuple #[.slice x9a x9l x9c, .int .i64 x10] ∧
           (bif (x10 : Int) != 0 then
            Q (.bool false) h_7
           else
            (bif ((x9l : Int) : Int) != 1 then
             Q (.bool false) h_7
            else
             CallsH Tryz.prog 9 [.pointer x3] h_7 fun r7 h_8 =>
             ∃ (x11a : Option Addr), ∃ (x11l : Nat), ∃ (x11c : Nat), ∃ (x12 : Int), r7 = .tuple #[.slice x11a x11l x11c, .int .i64 x12] ∧
             (bif (x12 : Int) != 0 then
              Q (.bool false) h_8
             else
              (bif ((x11l : Int) : Int) != (IntKind.wrap .i64 (s0 + 1)) then
               Q (.bool false) h_8
              else
               CallsH Tryz.prog 11 [.pointer x3] h_8 fun r8 h_9 =>
               DI .i64 r8 fun x13 =>
               (bif (x13 : Int) != (IntKind.wrap .i64 (s0 + 1)) then
                Q (.bool false) h_9
               else
                LoopH (fun again1 (s1 : Int) h_10 =>
                 (bif decide ((s1 : Int) ≤ s0) then
                  IdxA x11a x11l s1 2 fun a2 =>
                  Ld h_10 (a2.add 0) fun v2 => DI .i64 v2 fun x14 =>
                  (bif (x14 : Int) != s1 then
                   Q (.bool false) h_10
                  else
                   IdxA x11a x11l s1 2 fun a3 =>
                   Ld h_10 (a3.add 1) fun v3 => DSl v3 fun x15a x15l x15c =>
                   IdxA l_0a l_0l s1 1 fun a4 =>
                   Ld h_10 a4 fun v4 => DSl v4 fun x16a x16l x16c =>
                   CallsH Tryz.prog 17 [.slice x15a x15l x15c, .slice x16a x16l x16c] h_10 fun r9 h_11 =>
                   DB r9 fun x17 =>
                   (bif !x17 then
                    Q (.bool false) h_11
                   else
                    again1 (IntKind.wrap .i64 (s1 + 1)) h_11))
                 else
                  again0 (IntKind.wrap .i64 (s0 + 1)) h_10)) 0 h_9))))))
         else
          CallsH Tryz.prog 9 [.pointer x3] h_5 fun r10 h_12 =>
          ∃ (x18a : Option Addr), ∃ (x18l : Nat), ∃ (x18c : Nat), ∃ (x19 : Int), r10 = .tuple #[.slice x18a x18l x18c, .int .i64 x19] ∧
          (bif (x19 : Int) != 0 then
           Q (.bool false) h_12
          else
           (bif ((x18l : Int) : Int) != (IntKind.wrap .i64 (s0 + 1)) then
            Q (.bool false) h_12
           else
            CallsH Tryz.prog 11 [.pointer x3] h_12 fun r11 h_13 =>
            DI .i64 r11 fun x20 =>
            (bif (x20 : Int) != (IntKind.wrap .i64 (s0 + 1)) then
             Q (.bool false) h_13
            else
             LoopH (fun again2 (s2 : Int) h_14 =>
              (bif decide ((s2 : Int) ≤ s0) then
               IdxA x18a x18l s2 2 fun a5 =>
               Ld h_14 (a5.add 0) fun v5 => DI .i64 v5 fun x21 =>
               (bif (x21 : Int) != s2 then
                Q (.bool false) h_14
               else
                IdxA x18a x18l s2 2 fun a6 =>
                Ld h_14 (a6.add 1) fun v6 => DSl v6 fun x22a x22l x22c =>
                IdxA l_0a l_0l s2 1 fun a7 =>
                Ld h_14 a7 fun v7 => DSl v7 fun x23a x23l x23c =>
                CallsH Tryz.prog 17 [.slice x22a x22l x22c, .slice x23a x23l x23c] h_14 fun r12 h_15 =>
                DB r12 fun x24 =>
                (bif !x24 then
                 Q (.bool false) h_15
                else
                 again2 (IntKind.wrap .i64 (s2 + 1)) h_15))
              else
               again0 (IntKind.wrap .i64 (s0 + 1)) h_14)) 0 h_13)))))))
     else
      Q (.bool true) h_3)) 0 h_2)))
theorem F4_eq : (fun (l_0a : Option Addr) (l_0l : Nat) (l_0c : Nat) (folds0 : Int) (h : Heap) (Q : Value → Heap → Prop) => fnPT Tryz.prog Tryz.f4 (fun i => bif Nat.beq i 0 then annOne 9 (codI .i64) else bif Nat.beq i 2 then annOne 14 (codI .i64) else annNil) (fun _ => []) (fun i => bif Nat.beq i 31 then some ⟨[0, 0, 3, 7, 15, 0, 63, 127, 255, 255, 1023, 2047, 4095, 255, 255, 24831, 57599, 131071, 262143, 524287], 131072⟩ else none) [.slice l_0a l_0l l_0c, .int .u16 folds0] h Q) = F4 := by kernel_rfl
theorem F4_ok {l_0a : Option Addr} {l_0l : Nat} {l_0c : Nat} {folds0 : Int} {h : Heap} {Q : Value → Heap → Prop} (H : F4 l_0a l_0l l_0c folds0 h Q) : CallsH Tryz.prog 4 [.slice l_0a l_0l l_0c, .int .u16 folds0] h Q :=
 callsH_of (ann := fun i => bif Nat.beq i 0 then annOne 9 (codI .i64) else bif Nat.beq i 2 then annOne 14 (codI .i64) else annNil) (tys := fun _ => []) (pl := fun i => bif Nat.beq i 31 then some ⟨[0, 0, 3, 7, 15, 0, 63, 127, 255, 255, 1023, 2047, 4095, 255, 255, 24831, 57599, 131071, 262143, 524287], 131072⟩ else none) Tryz.func4 (by kernel_rfl) (by have e := F4_eq; exact (congrFun (congrFun (congrFun (congrFun (congrFun (congrFun (e) l_0a) l_0l) l_0c) folds0) h) Q).symm ▸ H)

/-- headgate/headgatelaw24.alive -/
def F7 (h : Heap) (Q : Value → Heap → Prop) : Prop :=
 CallsH Tryz.prog 14 [.int .i64 10000] h fun r0 h_0 =>
 ∃ (x0 : Option Addr), ∃ (x1 : Int), r0 = .tuple #[.pointer x0, .int .i64 x1] ∧
 (bif (x1 : Int) != 0 then
  Q (.bool false) h_0
 else
  (bif (x0).isNone then
   Q (.bool false) h_0
  else
   CallsH Tryz.prog 10 [.pointer x0, .int .i64 2] h_0 fun r1 h_1 =>
   ∃ (x2 : Option Addr), ∃ (x3 : Int), r1 = .tuple #[.pointer x2, .int .i64 x3] ∧
   (bif (x3 : Int) != 0 then
    Q (.bool false) h_1
   else
    (bif (x2).isNone then
     Q (.bool false) h_1
    else
     CallsH Tryz.prog 31 [.int .i64 1] h_1 fun r2 h_2 =>
     DSl r2 fun x4a x4l x4c =>
     CallsH Tryz.prog 31 [.int .i64 2] h_2 fun r3 h_3 =>
     DSl r3 fun x5a x5l x5c =>
     Al h_3 (.cells #[.slice x4a x4l x4c, .slice x5a x5l x5c] 81) fun b0 h_4 =>
     CallsH Tryz.prog 12 [.pointer x2, .int .i64 0, .slice (some (Addr.mk b0 0 none)) 2 2] h_4 fun r5 h_5 =>
     DI .i64 r5 fun x6 =>
     (bif (x6 : Int) != 0 then
      Q (.bool false) h_5
     else
      CallsH Tryz.prog 31 [.int .i64 9] h_5 fun r6 h_6 =>
      DSl r6 fun x7a x7l x7c =>
      Al h_6 (.cells #[.slice x7a x7l x7c] 81) fun b1 h_7 =>
      CallsH Tryz.prog 12 [.pointer x2, .int .i64 0, .slice (some (Addr.mk b1 0 none)) 1 1] h_7 fun r8 h_8 =>
      DI .i64 r8 fun x8 =>
      (bif (x8 : Int) != 0 then
       Q (.bool false) h_8
      else
       CallsH Tryz.prog 12 [.pointer x2, .int .i64 2, .slice none 0 0] h_8 fun r9 h_9 =>
       DI .i64 r9 fun x9 =>
       (bif (x9 : Int) != 240 then
        Q (.bool false) h_9
       else
        CallsH Tryz.prog 11 [.pointer x2] h_9 fun r10 h_10 =>
        DI .i64 r10 fun x10 =>
        (bif (x10 : Int) != 1 then
         Q (.bool false) h_10
        else
         CallsH Tryz.prog 8 [.pointer x2, .int .i64 0] h_10 fun r11 h_11 =>
         ∃ (x11a : Option Addr), ∃ (x11l : Nat), ∃ (x11c : Nat), ∃ (x12 : Int), r11 = .tuple #[.slice x11a x11l x11c, .int .i64 x12] ∧
         (bif (x12 : Int) == 0 then
          (bif ((x11l : Int) : Int) == 2 then
           IdxA x11a x11l 1 1 fun a0 =>
           Ld h_11 a0 fun v0 => DSl v0 fun x13a x13l x13c =>
           IdxA x13a x13l 0 3 fun a1 =>
           Ld h_11 (a1.add 1) fun v1 => DI .i64 v1 fun x14 =>
           Q (.bool ((x14 : Int) == 2)) h_11
          else
           Q (.bool false) h_11)
         else
          Q (.bool false) h_11)))))))))
theorem F7_eq : (fun (h : Heap) (Q : Value → Heap → Prop) => fnPT Tryz.prog Tryz.f7 (fun _ => annNil) (fun _ => []) (fun _ => none) [] h Q) = F7 := by kernel_rfl
theorem F7_ok {h : Heap} {Q : Value → Heap → Prop} (H : F7 h Q) : CallsH Tryz.prog 7 [] h Q :=
 callsH_of (ann := fun _ => annNil) (tys := fun _ => []) (pl := fun _ => none) Tryz.func7 (by kernel_rfl) (by have e := F7_eq; exact (congrFun (congrFun (e) h) Q).symm ▸ H)

/-- (*headgate/sink.Sink).Read -/
def F8 (s0 : Option Addr) (id0 : Int) (h : Heap) (Q : Value → Heap → Prop) : Prop :=
 (bif (s0).isNone then
  Q (.tuple #[.slice none 0 0, .int .i64 1]) h
 else
  NN' s0 fun a0 =>
  Ld h (a0.add 1) fun v0 => DP v0 fun x0 =>
  CallsH Tryz.prog 32 [.pointer x0, .int .i64 id0] h fun r0 h_0 =>
  ∃ (x1a : Option Addr), ∃ (x1l : Nat), ∃ (x1c : Nat), ∃ (x2 : Int), r0 = .tuple #[.slice x1a x1l x1c, .int .i64 x2] ∧
  (bif (x2 : Int) != 0 then
   Q (.tuple #[.slice none 0 0, .int .i64 x2]) h_0
  else
   CallsH Tryz.prog 33 [.slice x1a x1l x1c] h_0 fun r1 h_1 =>
   ∃ (x3a : Option Addr), ∃ (x3l : Nat), ∃ (x3c : Nat), ∃ (x4 : Int), r1 = .tuple #[.slice x3a x3l x3c, .int .i64 x4] ∧
   (bif (x4 : Int) != 0 then
    Q (.tuple #[.slice none 0 0, .int .i64 241]) h_1
   else
    Al h_1 (.map #[] 0) fun b0 h_2 =>
    LoopH (fun again0 (s1 : Int × Int) h_3 =>
     (bif decide ((s1.2 : Int) < (x3l : Int)) then
      IdxA x3a x3l s1.2 2 fun a1 =>
      Ld h_3 (a1.add 0) fun c0 =>
      Ld h_3 (a1.add 1) fun c1 =>
      ∃ (x5 : ByteArray), ∃ (x6 : ByteArray), (Value.agg #[c0, c1]) = .agg #[.string x5, .string x6] ∧
      Al h_3 (.cells #[.string .empty, .string .empty] 96) fun b1 h_4 =>
      StC h_4 ((Addr.mk b1 0 none).add 0) (.string x5) fun h_6 =>
      StC h_6 ((Addr.mk b1 0 none).add 1) (.string x6) fun h_7 =>
      NN' s0 fun a2 =>
      Ld h_7 (a2.add 0) fun v1 => DP v1 fun x7 =>
      Ld h_7 ((Addr.mk b1 0 none).add 0) fun v2 => DS v2 fun x8 =>
      CallsH Tryz.prog 34 [.pointer x7, .string ⟨#[111, 117, 116]⟩, .string x8] h_7 fun r5 h_8 =>
      ∃ (x9a : Option Addr), ∃ (x9l : Nat), ∃ (x9c : Nat), ∃ (x10 : Int), r5 = .tuple #[.slice x9a x9l x9c, .int .i64 x10] ∧
      (bif (x10 : Int) != 0 then
       Q (.tuple #[.slice none 0 0, .int .i64 x10]) h_8
      else
       CallsH Tryz.prog 33 [.slice x9a x9l x9c] h_8 fun r6 h_9 =>
       ∃ (x11a : Option Addr), ∃ (x11l : Nat), ∃ (x11c : Nat), ∃ (x12 : Int), r6 = .tuple #[.slice x11a x11l x11c, .int .i64 x12] ∧
       (bif (x12 : Int) != 0 then
        (SameV (some (.tuple #[])) (.tuple #[])) ∧
        (SameV (some (.tuple #[])) (.tuple #[])) ∧
        (SameV (some (.tuple #[])) (.tuple #[])) ∧
        (SameV (some (.tuple #[])) (.tuple #[])) ∧
        Q (.tuple #[.slice none 0 0, .int .i64 241]) h_9
       else
        Ld h_9 ((Addr.mk b1 0 none).add 1) fun v3 => DS v3 fun x13 =>
        CallsH Tryz.prog 36 [.slice x9a x9l x9c] h_9 fun r7 h_10 =>
        DI .u32 r7 fun x14 =>
        (SameV (some (.pointer (some ((Addr.mk b1 0 none).add 1)))) (.pointer (some ((Addr.mk b1 0 none).add 1)))) ∧
        (Ld h_10 ((Addr.mk b1 0 none).add 1) fun v4 => DS v4 fun x15 =>
        SameV (some (.string x13)) (.string x15)) ∧
        CallsH Tryz.prog 35 [.int .i64 (IntKind.wrap .i64 x14)] h_10 fun r8 h_11 =>
        DS r8 fun x16 =>
        (SameV (some (.pointer (some ((Addr.mk b1 0 none).add 1)))) (.pointer (some ((Addr.mk b1 0 none).add 1)))) ∧
        (Ld h_11 ((Addr.mk b1 0 none).add 1) fun v5 => DS v5 fun x17 =>
        SameV (some (.string x13)) (.string x17)) ∧
        (bif !strEq x13 x16 then
         Q (.tuple #[.slice none 0 0, .int .i64 241]) h_11
        else
         LoopH (fun again1 (s2 : Int × Int) h_12 =>
          (bif decide ((s2.2 : Int) < (x11l : Int)) then
           IdxA x11a x11l s2.2 2 fun a3 =>
           Ld h_12 (a3.add 0) fun c2 =>
           Ld h_12 (a3.add 1) fun c3 =>
           ∃ (x18 : ByteArray), ∃ (x19 : ByteArray), (Value.agg #[c2, c3]) = .agg #[.string x18, .string x19] ∧
           Al h_12 (.cells #[.string .empty, .string .empty] 96) fun b2 h_13 =>
           StC h_13 ((Addr.mk b2 0 none).add 0) (.string x18) fun h_15 =>
           StC h_15 ((Addr.mk b2 0 none).add 1) (.string x19) fun h_16 =>
           Ld h_16 ((Addr.mk b2 0 none).add 0) fun v6 => DS v6 fun x20 =>
           CallsH Tryz.prog 37 [.string x20] h_16 fun r11 h_17 =>
           ∃ (x21 : Int), ∃ (x22 : Bool), r11 = .tuple #[.int .i64 x21, .bool x22] ∧
           Ld h_17 ((Addr.mk b2 0 none).add 1) fun v7 => DS v7 fun x23 =>
           RunH Tryz.prog (Go.convert 9 85 (.string x23)) h_17 fun r12 h_18 =>
           DSl r12 fun x24a x24l x24c =>
           CallsH Tryz.prog 38 [.slice x24a x24l x24c] h_18 fun r13 h_19 =>
           ∃ (x25a : Option Addr), ∃ (x25l : Nat), ∃ (x25c : Nat), ∃ (x26 : Int), r13 = .tuple #[.slice x25a x25l x25c, .int .i64 x26] ∧
           (bif !x22 then
            Q (.tuple #[.slice none 0 0, .int .i64 241]) h_19
           else
            (bif (x26 : Int) != 0 then
             Q (.tuple #[.slice none 0 0, .int .i64 241]) h_19
            else
             (bif ((x25l : Int) : Int) != 1 then
              Q (.tuple #[.slice none 0 0, .int .i64 241]) h_19
             else
              IdxA x25a x25l 0 1 fun a4 =>
              Ld h_19 a4 fun v8 => DSl v8 fun x27a x27l x27c =>
              RunU Tryz.prog (Instr.mapUpdate 94 (.map (some b0)) (.int .i64 x21) (.slice x27a x27l x27c)) h_19 fun h_20 =>
              again1 (IntKind.wrap .i64 (s2.1 + 1), IntKind.wrap .i64 (s2.2 + 1)) h_20)))
          else
           again0 (s2.1, IntKind.wrap .i64 (s1.2 + 1)) h_12)) (s1.1, 0) h_11)))
     else
      CallsH Tryz.prog 39 [.map (some b0), .int .i64 s1.1] h_3 fun r15 h_21 =>
      ∃ (x28a : Option Addr), ∃ (x28l : Nat), ∃ (x28c : Nat), ∃ (x29 : Bool), r15 = .tuple #[.slice x28a x28l x28c, .bool x29] ∧
      (bif !x29 then
       Q (.tuple #[.slice none 0 0, .int .i64 241]) h_21
      else
       Q (.tuple #[.slice x28a x28l x28c, .int .i64 0]) h_21))) (0, 0) h_2)))
theorem F8_eq : (fun (s0 : Option Addr) (id0 : Int) (h : Heap) (Q : Value → Heap → Prop) => fnPT Tryz.prog Tryz.f8 (fun i => bif Nat.beq i 0 then annCons 10 (codI .i64) (annOne 48 (codI .i64)) else bif Nat.beq i 2 then annCons 10 (codI .i64) (annOne 83 (codI .i64)) else annNil) (fun _ => []) (fun i => bif Nat.beq i 14 then some ⟨[0, 1, 3, 7, 0, 16, 63, 127, 255, 255, 511, 2047], 64⟩ else bif Nat.beq i 18 then some ⟨[0, 1, 3, 7, 15, 7, 39, 103, 231, 511, 1023], 320⟩ else none) [.pointer s0, .int .i64 id0] h Q) = F8 := by kernel_rfl
theorem F8_ok {s0 : Option Addr} {id0 : Int} {h : Heap} {Q : Value → Heap → Prop} (H : F8 s0 id0 h Q) : CallsH Tryz.prog 8 [.pointer s0, .int .i64 id0] h Q :=
 callsH_of (ann := fun i => bif Nat.beq i 0 then annCons 10 (codI .i64) (annOne 48 (codI .i64)) else bif Nat.beq i 2 then annCons 10 (codI .i64) (annOne 83 (codI .i64)) else annNil) (tys := fun _ => []) (pl := fun i => bif Nat.beq i 14 then some ⟨[0, 1, 3, 7, 0, 16, 63, 127, 255, 255, 511, 2047], 64⟩ else bif Nat.beq i 18 then some ⟨[0, 1, 3, 7, 15, 7, 39, 103, 231, 511, 1023], 320⟩ else none) Tryz.func8 (by kernel_rfl) (by have e := F8_eq; exact (congrFun (congrFun (congrFun (congrFun (e) s0) id0) h) Q).symm ▸ H)

/-- (*headgate/sink.Sink).All -/
def F9 (s0 : Option Addr) (h : Heap) (Q : Value → Heap → Prop) : Prop :=
 Al h (.cells #[.pointer s0] 23) fun b0 h_0 =>
 Al h_0 (.cells #[.slice none 0 0] 28) fun b1 h_1 =>
 Al h_1 (.cells #[.int .i64 0] 25) fun b2 h_2 =>
 Ld h_2 (Addr.mk b0 0 none) fun v0 => DP v0 fun x0 =>
 (bif (x0).isNone then
  StC h_2 ((Addr.mk b1 0 none).add 0) (.slice none 0 0) fun h_4 =>
  StC h_4 ((Addr.mk b2 0 none).add 0) (.int .i64 1) fun h_6 =>
  Ld h_6 (Addr.mk b1 0 none) fun v1 => DSl v1 fun res0a res0l res0c =>
  Ld h_6 (Addr.mk b2 0 none) fun v2 => DI .i64 v2 fun res1 =>
  Q (.tuple #[.slice res0a res0l res0c, .int .i64 res1]) h_6
 else
  Al h_2 (.cells #[.slice none 0 0] 28) fun b3 h_7 =>
  Ld h_7 (Addr.mk b0 0 none) fun v3 => DP v3 fun x1 =>
  NN' x1 fun a0 =>
  Ld h_7 (a0.add 1) fun v4 => DP v4 fun x2 =>
  CallsH Tryz.prog 40 [.pointer x2] h_7 fun r6 h_8 =>
  ∃ (x3 : Value), r6 = x3 ∧
  RangeFn Tryz.prog x3 2 none h_8 (fun l_0 rec_0 args0 h_9 Q_0 =>
   ∃ (y0 : Int), ∃ (y1a : Option Addr), ∃ (y1l : Nat), ∃ (y1c : Nat), args0 = [.int .i64 y0, .slice y1a y1l y1c] ∧
   h_9[l_0]? = some (rec_0 .ready none) ∧
   Ld (h_9.setIfInBounds l_0 (rec_0 .busy none)) (Addr.mk b0 0 none) fun v5 => DP v5 fun x4 =>
   CallsH Tryz.prog 8 [.pointer x4, .int .i64 y0] (h_9.setIfInBounds l_0 (rec_0 .busy none)) fun r7 h_10 =>
   ∃ (x5a : Option Addr), ∃ (x5l : Nat), ∃ (x5c : Nat), ∃ (x6 : Int), r7 = .tuple #[.slice x5a x5l x5c, .int .i64 x6] ∧
   (bif (x6 : Int) != 0 then
    StC h_10 ((Addr.mk b1 0 none).add 0) (.slice none 0 0) fun h_12 =>
    StC h_12 ((Addr.mk b2 0 none).add 0) (.int .i64 x6) fun h_14 =>
    h_14[l_0]? = some (rec_0 .busy none) ∧ Q_0 (.bool false) (h_14.setIfInBounds l_0 (rec_0 .done (some .ret)))
   else
    Ld h_10 (Addr.mk b3 0 none) fun v6 => DSl v6 fun x7a x7l x7c =>
    Al h_10 (.cells #[.int .i64 y0, .slice x5a x5l x5c] 48) fun b4 h_15 =>
    RunH Tryz.prog (Builtin.append_ #[28, 28] 28 #[.slice x7a x7l x7c, .slice (some (Addr.mk b4 0 none)) 1 1]) h_15 fun r11 h_16 =>
    DSl r11 fun x8a x8l x8c =>
    StC h_16 ((Addr.mk b3 0 none).add 0) (.slice x8a x8l x8c) fun h_18 =>
    h_18[l_0]? = some (rec_0 .busy none) ∧ Q_0 (.bool true) (h_18.setIfInBounds l_0 (rec_0 .ready none)))) (fun pend0 h_19 =>
   (pend0 = none ∨ pend0 = some (.ret)) ∧
   (pend0 = none →
    Ld h_19 (Addr.mk b3 0 none) fun v7 => DSl v7 fun x9a x9l x9c =>
    StC h_19 ((Addr.mk b1 0 none).add 0) (.slice x9a x9l x9c) fun h_21 =>
    StC h_21 ((Addr.mk b2 0 none).add 0) (.int .i64 0) fun h_23 =>
    h_23[h_8.size]? = some (.deferred (some [])) ∧
    Ld (h_23.setIfInBounds h_8.size (.deferred none)) (Addr.mk b1 0 none) fun v8 => DSl v8 fun res2a res2l res2c =>
    Ld (h_23.setIfInBounds h_8.size (.deferred none)) (Addr.mk b2 0 none) fun v9 => DI .i64 v9 fun res3 =>
    Q (.tuple #[.slice res2a res2l res2c, .int .i64 res3]) (h_23.setIfInBounds h_8.size (.deferred none))) ∧
   (pend0 = some (.ret) →
    h_19[h_8.size]? = some (.deferred (some [])) ∧
    Ld (h_19.setIfInBounds h_8.size (.deferred none)) (Addr.mk b1 0 none) fun v10 => DSl v10 fun res4a res4l res4c =>
    Ld (h_19.setIfInBounds h_8.size (.deferred none)) (Addr.mk b2 0 none) fun v11 => DI .i64 v11 fun res5 =>
    Q (.tuple #[.slice res4a res4l res4c, .int .i64 res5]) (h_19.setIfInBounds h_8.size (.deferred none)))))
theorem F9_eq : (fun (s0 : Option Addr) (h : Heap) (Q : Value → Heap → Prop) => fnPT Tryz.prog Tryz.f9 (fun _ => annNil) (fun i => bif Nat.beq i 0 then [2, 85] else []) (fun _ => none) [.pointer s0] h Q) = F9 := by kernel_rfl
theorem F9_ok {s0 : Option Addr} {h : Heap} {Q : Value → Heap → Prop} (H : F9 s0 h Q) : CallsH Tryz.prog 9 [.pointer s0] h Q :=
 callsH_of (ann := fun _ => annNil) (tys := fun i => bif Nat.beq i 0 then [2, 85] else []) (pl := fun _ => none) Tryz.func9 (by kernel_rfl) (by have e := F9_eq; exact (congrFun (congrFun (congrFun (e) s0) h) Q).symm ▸ H)

/-- headgate/sink.Open -/
def F10 (f0 : Option Addr) (parts0 : Int) (h : Heap) (Q : Value → Heap → Prop) : Prop :=
 Al h (.cells #[.pointer none] 23) fun b0 h_0 =>
 Al h_0 (.cells #[.int .i64 0] 25) fun b1 h_1 =>
 (bif decide ((parts0 : Int) < 1) then
  StC h_1 ((Addr.mk b0 0 none).add 0) (.pointer none) fun h_3 =>
  StC h_3 ((Addr.mk b1 0 none).add 0) (.int .i64 2) fun h_5 =>
  Ld h_5 (Addr.mk b0 0 none) fun v0 => DP v0 fun res0 =>
  Ld h_5 (Addr.mk b1 0 none) fun v1 => DI .i64 v1 fun res1 =>
  Q (.tuple #[.pointer res0, .int .i64 res1]) h_5
 else
  (bif decide ((parts0 : Int) > 4) then
   StC h_1 ((Addr.mk b0 0 none).add 0) (.pointer none) fun h_7 =>
   StC h_7 ((Addr.mk b1 0 none).add 0) (.int .i64 2) fun h_9 =>
   Ld h_9 (Addr.mk b0 0 none) fun v2 => DP v2 fun res2 =>
   Ld h_9 (Addr.mk b1 0 none) fun v3 => DI .i64 v3 fun res3 =>
   Q (.tuple #[.pointer res2, .int .i64 res3]) h_9
  else
   CallsH Tryz.prog 41 [.pointer f0, .string ⟨#[109, 97, 110]⟩] h_1 fun r6 h_10 =>
   ∃ (x0 : Option Addr), ∃ (x1 : Int), r6 = .tuple #[.pointer x0, .int .i64 x1] ∧
   (bif (x1 : Int) != 0 then
    StC h_10 ((Addr.mk b0 0 none).add 0) (.pointer none) fun h_12 =>
    StC h_12 ((Addr.mk b1 0 none).add 0) (.int .i64 x1) fun h_14 =>
    Ld h_14 (Addr.mk b0 0 none) fun v4 => DP v4 fun res4 =>
    Ld h_14 (Addr.mk b1 0 none) fun v5 => DI .i64 v5 fun res5 =>
    Q (.tuple #[.pointer res4, .int .i64 res5]) h_14
   else
    Al h_10 (.cells #[.pointer f0, .pointer x0, .int .i64 parts0, .int .i64 0] 89) fun b2 h_15 =>
    Al h_15 (.cells #[.pointer none] 23) fun b3 h_16 =>
    StC h_16 ((Addr.mk b3 0 none).add 0) (.pointer (some (Addr.mk b2 0 none))) fun h_18 =>
    CallsH Tryz.prog 40 [.pointer x0] h_18 fun r12 h_19 =>
    ∃ (x2 : Value), r12 = x2 ∧
    RangeFn Tryz.prog x2 2 none h_19 (fun l_0 rec_0 args0 h_20 Q_0 =>
     ∃ (y0 : Int), ∃ (y1a : Option Addr), ∃ (y1l : Nat), ∃ (y1c : Nat), args0 = [.int .i64 y0, .slice y1a y1l y1c] ∧
     h_20[l_0]? = some (rec_0 .ready none) ∧
     Ld (h_20.setIfInBounds l_0 (rec_0 .busy none)) (Addr.mk b3 0 none) fun v6 => DP v6 fun x3 =>
     NN' x3 fun a0 =>
     Ld (h_20.setIfInBounds l_0 (rec_0 .busy none)) (a0.add 3) fun v7 => DI .i64 v7 fun x4 =>
     (bif (y0 : Int) != x4 then
      StC (h_20.setIfInBounds l_0 (rec_0 .busy none)) ((Addr.mk b0 0 none).add 0) (.pointer none) fun h_22 =>
      StC h_22 ((Addr.mk b1 0 none).add 0) (.int .i64 240) fun h_24 =>
      h_24[l_0]? = some (rec_0 .busy none) ∧ Q_0 (.bool false) (h_24.setIfInBounds l_0 (rec_0 .done (some .ret)))
     else
      Ld (h_20.setIfInBounds l_0 (rec_0 .busy none)) (Addr.mk b3 0 none) fun v8 => DP v8 fun x5 =>
      NN' x5 fun a1 =>
      Ld (h_20.setIfInBounds l_0 (rec_0 .busy none)) (a1.add 3) fun v9 => DI .i64 v9 fun x6 =>
      NN' x5 fun a2 =>
      StC (h_20.setIfInBounds l_0 (rec_0 .busy none)) ((a2.add 3).add 0) (.int .i64 (IntKind.wrap .i64 (x6 + 1))) fun h_26 =>
      h_26[l_0]? = some (rec_0 .busy none) ∧ Q_0 (.bool true) (h_26.setIfInBounds l_0 (rec_0 .ready none)))) (fun pend0 h_27 =>
     (pend0 = none ∨ pend0 = some (.ret)) ∧
     (pend0 = none →
      Ld h_27 (Addr.mk b3 0 none) fun v10 => DP v10 fun x7 =>
      CallsH Tryz.prog 42 [.pointer x7] h_27 fun r16 h_28 =>
      DI .i64 r16 fun e0 =>
      (bif (e0 : Int) != 0 then
       StC h_28 ((Addr.mk b0 0 none).add 0) (.pointer none) fun h_30 =>
       StC h_30 ((Addr.mk b1 0 none).add 0) (.int .i64 e0) fun h_32 =>
       h_32[h_19.size]? = some (.deferred (some [])) ∧
       Ld (h_32.setIfInBounds h_19.size (.deferred none)) (Addr.mk b0 0 none) fun v11 => DP v11 fun res6 =>
       Ld (h_32.setIfInBounds h_19.size (.deferred none)) (Addr.mk b1 0 none) fun v12 => DI .i64 v12 fun res7 =>
       Q (.tuple #[.pointer res6, .int .i64 res7]) (h_32.setIfInBounds h_19.size (.deferred none))
      else
       Ld h_28 (Addr.mk b3 0 none) fun v13 => DP v13 fun x8 =>
       StC h_28 ((Addr.mk b0 0 none).add 0) (.pointer x8) fun h_34 =>
       StC h_34 ((Addr.mk b1 0 none).add 0) (.int .i64 0) fun h_36 =>
       h_36[h_19.size]? = some (.deferred (some [])) ∧
       Ld (h_36.setIfInBounds h_19.size (.deferred none)) (Addr.mk b0 0 none) fun v14 => DP v14 fun res8 =>
       Ld (h_36.setIfInBounds h_19.size (.deferred none)) (Addr.mk b1 0 none) fun v15 => DI .i64 v15 fun res9 =>
       Q (.tuple #[.pointer res8, .int .i64 res9]) (h_36.setIfInBounds h_19.size (.deferred none)))) ∧
     (pend0 = some (.ret) →
      h_27[h_19.size]? = some (.deferred (some [])) ∧
      Ld (h_27.setIfInBounds h_19.size (.deferred none)) (Addr.mk b0 0 none) fun v16 => DP v16 fun res10 =>
      Ld (h_27.setIfInBounds h_19.size (.deferred none)) (Addr.mk b1 0 none) fun v17 => DI .i64 v17 fun res11 =>
      Q (.tuple #[.pointer res10, .int .i64 res11]) (h_27.setIfInBounds h_19.size (.deferred none)))))))
theorem F10_eq : (fun (f0 : Option Addr) (parts0 : Int) (h : Heap) (Q : Value → Heap → Prop) => fnPT Tryz.prog Tryz.f10 (fun _ => annNil) (fun i => bif Nat.beq i 0 then [2, 85] else []) (fun _ => none) [.pointer f0, .int .i64 parts0] h Q) = F10 := by kernel_rfl
theorem F10_ok {f0 : Option Addr} {parts0 : Int} {h : Heap} {Q : Value → Heap → Prop} (H : F10 f0 parts0 h Q) : CallsH Tryz.prog 10 [.pointer f0, .int .i64 parts0] h Q :=
 callsH_of (ann := fun _ => annNil) (tys := fun i => bif Nat.beq i 0 then [2, 85] else []) (pl := fun _ => none) Tryz.func10 (by kernel_rfl) (by have e := F10_eq; exact (congrFun (congrFun (congrFun (congrFun (e) f0) parts0) h) Q).symm ▸ H)

/-- (*headgate/sink.Sink).Next -/
def F11 (s0 : Option Addr) (h : Heap) (Q : Value → Heap → Prop) : Prop :=
 (bif (s0).isNone then
  Q (.int .i64 0) h
 else
  NN' s0 fun a0 =>
  Ld h (a0.add 3) fun v0 => DI .i64 v0 fun x0 =>
  Q (.int .i64 x0) h)
theorem F11_eq : (fun (s0 : Option Addr) (h : Heap) (Q : Value → Heap → Prop) => fnPT Tryz.prog Tryz.f11 (fun _ => annNil) (fun _ => []) (fun _ => none) [.pointer s0] h Q) = F11 := by kernel_rfl
theorem F11_ok {s0 : Option Addr} {h : Heap} {Q : Value → Heap → Prop} (H : F11 s0 h Q) : CallsH Tryz.prog 11 [.pointer s0] h Q :=
 callsH_of (ann := fun _ => annNil) (tys := fun _ => []) (pl := fun _ => none) Tryz.func11 (by kernel_rfl) (by have e := F11_eq; exact (congrFun (congrFun (congrFun (e) s0) h) Q).symm ▸ H)

/-- (*headgate/sink.Sink).Add -/
def F12 (s0 : Option Addr) (id0 : Int) (rows0a : Option Addr) (rows0l : Nat) (rows0c : Nat) (h : Heap) (Q : Value → Heap → Prop) : Prop :=
 (bif (s0).isNone then
  Q (.int .i64 1) h
 else
  (bif decide ((id0 : Int) < 0) then
   Q (.int .i64 240) h
  else
   NN' s0 fun a0 =>
   Ld h (a0.add 3) fun v0 => DI .i64 v0 fun x0 =>
   (bif decide ((id0 : Int) > x0) then
    Q (.int .i64 240) h
   else
    NN' s0 fun a1 =>
    Ld h (a1.add 3) fun v1 => DI .i64 v1 fun x1 =>
    (bif decide ((id0 : Int) < x1) then
     Q (.int .i64 0) h
    else
     CallsH Tryz.prog 43 [.pointer s0, .slice rows0a rows0l rows0c] h fun r0 h_0 =>
     ∃ (x2a : Option Addr), ∃ (x2l : Nat), ∃ (x2c : Nat), ∃ (x3a : Option Addr), ∃ (x3l : Nat), ∃ (x3c : Nat), ∃ (x4a : Option Addr), ∃ (x4l : Nat), ∃ (x4c : Nat), ∃ (x5a : Option Addr), ∃ (x5l : Nat), ∃ (x5c : Nat), ∃ (x6 : Bool), r0 = .tuple #[.agg #[.slice x2a x2l x2c, .slice x3a x3l x3c, .slice x4a x4l x4c, .slice x5a x5l x5c], .bool x6] ∧
     Al h_0 (.cells #[.slice none 0 0, .slice none 0 0, .slice none 0 0, .slice none 0 0] 111) fun b0 h_1 =>
     StC h_1 ((Addr.mk b0 0 none).add 0) (.slice x2a x2l x2c) fun h_3 =>
     StC h_3 ((Addr.mk b0 0 none).add 1) (.slice x3a x3l x3c) fun h_4 =>
     StC h_4 ((Addr.mk b0 0 none).add 2) (.slice x4a x4l x4c) fun h_5 =>
     StC h_5 ((Addr.mk b0 0 none).add 3) (.slice x5a x5l x5c) fun h_6 =>
     (bif !x6 then
      Q (.int .i64 41) h_6
     else
      Ld h_6 ((Addr.mk b0 0 none).add 0) fun c0 =>
      Ld h_6 ((Addr.mk b0 0 none).add 1) fun c1 =>
      Ld h_6 ((Addr.mk b0 0 none).add 2) fun c2 =>
      Ld h_6 ((Addr.mk b0 0 none).add 3) fun c3 =>
      ∃ (x7a : Option Addr), ∃ (x7l : Nat), ∃ (x7c : Nat), ∃ (x8a : Option Addr), ∃ (x8l : Nat), ∃ (x8c : Nat), ∃ (x9a : Option Addr), ∃ (x9l : Nat), ∃ (x9c : Nat), ∃ (x10a : Option Addr), ∃ (x10l : Nat), ∃ (x10c : Nat), (Value.agg #[c0, c1, c2, c3]) = .agg #[.slice x7a x7l x7c, .slice x8a x8l x8c, .slice x9a x9l x9c, .slice x10a x10l x10c] ∧
      LoopH (fun again0 (s1 : Sl × Int) h_7 =>
       (bif decide ((s1.2 : Int) < 4) then
        0 ≤ (s1.2 : Int) ∧ (s1.2 : Int) < 4 ∧
        ∃ u0 : Value, (#[.slice x7a x7l x7c, .slice x8a x8l x8c, .slice x9a x9l x9c, .slice x10a x10l x10c] : Array Value).toList[(s1.2 : Int).toNat]? = some u0 ∧
        DSl u0 fun l_0a l_0l l_0c =>
        (bif ((l_0l : Int) : Int) == 0 then
         again0 (⟨s1.1.a, s1.1.l, s1.1.c⟩, IntKind.wrap .i64 (s1.2 + 1)) h_7
        else
         CallsH Tryz.prog 44 [.slice l_0a l_0l l_0c] h_7 fun r3 h_8 =>
         ∃ (x11a : Option Addr), ∃ (x11l : Nat), ∃ (x11c : Nat), ∃ (x12 : Int), r3 = .tuple #[.slice x11a x11l x11c, .int .i64 x12] ∧
         (bif (x12 : Int) != 0 then
          Q (.int .i64 x12) h_8
         else
          NN' s0 fun a2 =>
          Ld h_8 (a2.add 0) fun v2 => DP v2 fun x13 =>
          CallsH Tryz.prog 46 [.int .i64 id0, .int .i64 s1.2] h_8 fun r4 h_9 =>
          DS r4 fun x14 =>
          (SameV (some (.pointer s0)) (.pointer s0)) ∧
          (NN' s0 fun a3 =>
          SameV (some (.pointer (some a2))) (.pointer (some a3))) ∧
          (SameV (some (.pointer (some (a2.add 0)))) (.pointer (some (a2.add 0)))) ∧
          (Ld h_9 (a2.add 0) fun v3 => DP v3 fun x15 =>
          SameV (some (.pointer x13)) (.pointer x15)) ∧
          (SameV (some (.slice x11a x11l x11c)) (.slice x11a x11l x11c)) ∧
          CallsH Tryz.prog 45 [.pointer x13, .string ⟨#[111, 117, 116]⟩, .string x14, .slice x11a x11l x11c] h_9 fun r5 h_10 =>
          DI .i64 r5 fun e0 =>
          (bif (e0 : Int) != 0 then
           Q (.int .i64 e0) h_10
          else
           CallsH Tryz.prog 46 [.int .i64 id0, .int .i64 s1.2] h_10 fun r6 h_11 =>
           DS r6 fun x16 =>
           CallsH Tryz.prog 36 [.slice x11a x11l x11c] h_11 fun r7 h_12 =>
           DI .u32 r7 fun x17 =>
           CallsH Tryz.prog 35 [.int .i64 (IntKind.wrap .i64 x17)] h_12 fun r8 h_13 =>
           DS r8 fun x18 =>
           Al h_13 (.cells #[.string x16, .string x18] 96) fun b1 h_14 =>
           RunH Tryz.prog (Builtin.append_ #[91, 91] 91 #[.slice s1.1.a s1.1.l s1.1.c, .slice (some (Addr.mk b1 0 none)) 1 1]) h_14 fun r10 h_15 =>
           DSl r10 fun files0a files0l files0c =>
           again0 (⟨files0a, files0l, files0c⟩, IntKind.wrap .i64 (s1.2 + 1)) h_15)))
       else
        CallsH Tryz.prog 44 [.slice s1.1.a s1.1.l s1.1.c] h_7 fun r11 h_16 =>
        ∃ (x19a : Option Addr), ∃ (x19l : Nat), ∃ (x19c : Nat), ∃ (x20 : Int), r11 = .tuple #[.slice x19a x19l x19c, .int .i64 x20] ∧
        (bif (x20 : Int) != 0 then
         Q (.int .i64 x20) h_16
        else
         NN' s0 fun a4 =>
         Ld h_16 (a4.add 1) fun v4 => DP v4 fun x21 =>
         CallsH Tryz.prog 47 [.pointer x21, .int .i64 id0, .slice x19a x19l x19c] h_16 fun r12 h_17 =>
         DI .i64 r12 fun e1 =>
         (bif (e1 : Int) != 0 then
          Q (.int .i64 e1) h_17
         else
          NN' s0 fun a5 =>
          Ld h_17 (a5.add 3) fun v5 => DI .i64 v5 fun x22 =>
          NN' s0 fun a6 =>
          StC h_17 ((a6.add 3).add 0) (.int .i64 (IntKind.wrap .i64 (x22 + 1))) fun h_19 =>
          Q (.int .i64 0) h_19)))) (⟨none, 0, 0⟩, 0) h_6)))))
theorem F12_eq : (fun (s0 : Option Addr) (id0 : Int) (rows0a : Option Addr) (rows0l : Nat) (rows0c : Nat) (h : Heap) (Q : Value → Heap → Prop) => fnPT Tryz.prog Tryz.f12 (fun i => bif Nat.beq i 1 then annCons 9 (codSl) (annOne 48 (codI .i64)) else annNil) (fun _ => []) (fun i => bif Nat.beq i 18 then some ⟨[0, 1, 3, 7, 0, 0, 48, 0, 255, 511], 320⟩ else none) [.pointer s0, .int .i64 id0, .slice rows0a rows0l rows0c] h Q) = F12 := by kernel_rfl
theorem F12_ok {s0 : Option Addr} {id0 : Int} {rows0a : Option Addr} {rows0l : Nat} {rows0c : Nat} {h : Heap} {Q : Value → Heap → Prop} (H : F12 s0 id0 rows0a rows0l rows0c h Q) : CallsH Tryz.prog 12 [.pointer s0, .int .i64 id0, .slice rows0a rows0l rows0c] h Q :=
 callsH_of (ann := fun i => bif Nat.beq i 1 then annCons 9 (codSl) (annOne 48 (codI .i64)) else annNil) (tys := fun _ => []) (pl := fun i => bif Nat.beq i 18 then some ⟨[0, 1, 3, 7, 0, 0, 48, 0, 255, 511], 320⟩ else none) Tryz.func12 (by kernel_rfl) (by have e := F12_eq; exact (congrFun (congrFun (congrFun (congrFun (congrFun (congrFun (congrFun (e) s0) id0) rows0a) rows0l) rows0c) h) Q).symm ▸ H)

/-- (*headgate/sink.Sink).Fold -/
def F13 (s0 : Option Addr) (h : Heap) (Q : Value → Heap → Prop) : Prop :=
 (bif (s0).isNone then
  Q (.int .i64 1) h
 else
  NN' s0 fun a0 =>
  Ld h (a0.add 3) fun v0 => DI .i64 v0 fun x0 =>
  (bif (x0 : Int) == 0 then
   Q (.int .i64 0) h
  else
   NN' s0 fun a1 =>
   Ld h (a1.add 1) fun v1 => DP v1 fun x1 =>
   NN' s0 fun a2 =>
   Ld h (a2.add 3) fun v2 => DI .i64 v2 fun x2 =>
   CallsH Tryz.prog 48 [.pointer x1, .int .i64 (IntKind.wrap .i64 (x2 - 1))] h fun r0 h_0 =>
   DI .i64 r0 fun x3 =>
   Q (.int .i64 x3) h_0))
theorem F13_eq : (fun (s0 : Option Addr) (h : Heap) (Q : Value → Heap → Prop) => fnPT Tryz.prog Tryz.f13 (fun _ => annNil) (fun _ => []) (fun i => bif Nat.beq i 5 then some ⟨[0, 1, 3, 7, 0, 16, 48, 112, 240, 511, 1023], 512⟩ else none) [.pointer s0] h Q) = F13 := by kernel_rfl
theorem F13_ok {s0 : Option Addr} {h : Heap} {Q : Value → Heap → Prop} (H : F13 s0 h Q) : CallsH Tryz.prog 13 [.pointer s0] h Q :=
 callsH_of (ann := fun _ => annNil) (tys := fun _ => []) (pl := fun i => bif Nat.beq i 5 then some ⟨[0, 1, 3, 7, 0, 16, 48, 112, 240, 511, 1023], 512⟩ else none) Tryz.func13 (by kernel_rfl) (by have e := F13_eq; exact (congrFun (congrFun (congrFun (e) s0) h) Q).symm ▸ H)

/-- headgate/headgatelaw24.big -/
def F15 (l_0a : Option Addr) (l_0l : Nat) (l_0c : Nat) (h : Heap) (Q : Value → Heap → Prop) : Prop :=
 (bif decide (((l_0l : Int) : Int) > 60) then
  Q (.bool true) h
 else
  LoopH (fun again0 (s0 : Int) h_0 =>
   (bif decide ((s0 : Int) < (l_0l : Int)) then
    IdxA l_0a l_0l s0 1 fun a0 =>
    Ld h_0 a0 fun v0 => DSl v0 fun x0a x0l x0c =>
    CallsH Tryz.prog 49 [.slice x0a x0l x0c] h_0 fun r0 h_1 =>
    DB r0 fun x1 =>
    (bif x1 then
     Q (.bool true) h_1
    else
     again0 (IntKind.wrap .i64 (s0 + 1)) h_1)
   else
    Q (.bool false) h_0)) 0 h)
theorem F15_eq : (fun (l_0a : Option Addr) (l_0l : Nat) (l_0c : Nat) (h : Heap) (Q : Value → Heap → Prop) => fnPT Tryz.prog Tryz.f15 (fun i => bif Nat.beq i 0 then annOne 3 (codI .i64) else annNil) (fun _ => []) (fun _ => none) [.slice l_0a l_0l l_0c] h Q) = F15 := by kernel_rfl
theorem F15_ok {l_0a : Option Addr} {l_0l : Nat} {l_0c : Nat} {h : Heap} {Q : Value → Heap → Prop} (H : F15 l_0a l_0l l_0c h Q) : CallsH Tryz.prog 15 [.slice l_0a l_0l l_0c] h Q :=
 callsH_of (ann := fun i => bif Nat.beq i 0 then annOne 3 (codI .i64) else annNil) (tys := fun _ => []) (pl := fun _ => none) Tryz.func15 (by kernel_rfl) (by have e := F15_eq; exact (congrFun (congrFun (congrFun (congrFun (congrFun (e) l_0a) l_0l) l_0c) h) Q).symm ▸ H)

/-- headgate/headgateref03.Rows -/
def F17 (a0a : Option Addr) (a0l : Nat) (a0c : Nat) (b0a : Option Addr) (b0l : Nat) (b0c : Nat) (h : Heap) (Q : Value → Heap → Prop) : Prop :=
 (bif ((a0l : Int) : Int) != (b0l : Int) then
  Q (.bool false) h
 else
  LoopH (fun again0 (s0 : Int) h_0 =>
   (bif decide ((s0 : Int) < (a0l : Int)) then
    IdxA a0a a0l s0 1 fun a1 =>
    Ld h_0 a1 fun v0 => DSl v0 fun x0a x0l x0c =>
    IdxA b0a b0l s0 1 fun a2 =>
    Ld h_0 a2 fun v1 => DSl v1 fun x1a x1l x1c =>
    CallsH Tryz.prog 53 [.slice x0a x0l x0c, .slice x1a x1l x1c] h_0 fun r0 h_1 =>
    DB r0 fun x2 =>
    (bif !x2 then
     Q (.bool false) h_1
    else
     again0 (IntKind.wrap .i64 (s0 + 1)) h_1)
   else
    Q (.bool true) h_0)) 0 h)
theorem F17_eq : (fun (a0a : Option Addr) (a0l : Nat) (a0c : Nat) (b0a : Option Addr) (b0l : Nat) (b0c : Nat) (h : Heap) (Q : Value → Heap → Prop) => fnPT Tryz.prog Tryz.f17 (fun i => bif Nat.beq i 0 then annOne 5 (codI .i64) else annNil) (fun _ => []) (fun i => bif Nat.beq i 6 then some ⟨[0, 0, 3, 7, 0, 0, 48, 112, 255, 511], 256⟩ else none) [.slice a0a a0l a0c, .slice b0a b0l b0c] h Q) = F17 := by kernel_rfl
theorem F17_ok {a0a : Option Addr} {a0l : Nat} {a0c : Nat} {b0a : Option Addr} {b0l : Nat} {b0c : Nat} {h : Heap} {Q : Value → Heap → Prop} (H : F17 a0a a0l a0c b0a b0l b0c h Q) : CallsH Tryz.prog 17 [.slice a0a a0l a0c, .slice b0a b0l b0c] h Q :=
 callsH_of (ann := fun i => bif Nat.beq i 0 then annOne 5 (codI .i64) else annNil) (tys := fun _ => []) (pl := fun i => bif Nat.beq i 6 then some ⟨[0, 0, 3, 7, 0, 0, 48, 112, 255, 511], 256⟩ else none) Tryz.func17 (by kernel_rfl) (by have e := F17_eq; exact (congrFun (congrFun (congrFun (congrFun (congrFun (congrFun (congrFun (congrFun (e) a0a) a0l) a0c) b0a) b0l) b0c) h) Q).symm ▸ H)

/-- headgate/headgatelaw24.one -/
def F31 (n0 : Int) (h : Heap) (Q : Value → Heap → Prop) : Prop :=
 Al h (.cells #[.int .i64 1, .int .i64 n0, .string .empty] 84) fun b0 h_0 =>
 Q (.slice (some (Addr.mk b0 0 none)) 1 1) h_0
theorem F31_eq : (fun (n0 : Int) (h : Heap) (Q : Value → Heap → Prop) => fnPT Tryz.prog Tryz.f31 (fun _ => annNil) (fun _ => []) (fun _ => none) [.int .i64 n0] h Q) = F31 := by kernel_rfl
theorem F31_ok {n0 : Int} {h : Heap} {Q : Value → Heap → Prop} (H : F31 n0 h Q) : CallsH Tryz.prog 31 [.int .i64 n0] h Q :=
 callsH_of (ann := fun _ => annNil) (tys := fun _ => []) (pl := fun _ => none) Tryz.func31 (by kernel_rfl) (by have e := F31_eq; exact (congrFun (congrFun (congrFun (e) n0) h) Q).symm ▸ H)

/-- (*headgate/metalog.Log).Get -/
def F32 (l_0 : Option Addr) (id0 : Int) (h : Heap) (Q : Value → Heap → Prop) : Prop :=
 (bif (l_0).isNone then
  Q (.tuple #[.slice none 0 0, .int .i64 1]) h
 else
  CallsH Tryz.prog 107 [.pointer l_0, .int .i64 id0] h fun r0 h_0 =>
  ∃ (x0a : Option Addr), ∃ (x0l : Nat), ∃ (x0c : Nat), ∃ (x1 : Bool), r0 = .tuple #[.slice x0a x0l x0c, .bool x1] ∧
  (bif !x1 then
   Q (.tuple #[.slice none 0 0, .int .i64 91]) h_0
  else
   CallsH Tryz.prog 108 [.slice x0a x0l x0c] h_0 fun r1 h_1 =>
   DSl r1 fun x2a x2l x2c =>
   Q (.tuple #[.slice x2a x2l x2c, .int .i64 0]) h_1))
theorem F32_eq : (fun (l_0 : Option Addr) (id0 : Int) (h : Heap) (Q : Value → Heap → Prop) => fnPT Tryz.prog Tryz.f32 (fun _ => annNil) (fun _ => []) (fun _ => none) [.pointer l_0, .int .i64 id0] h Q) = F32 := by kernel_rfl
theorem F32_ok {l_0 : Option Addr} {id0 : Int} {h : Heap} {Q : Value → Heap → Prop} (H : F32 l_0 id0 h Q) : CallsH Tryz.prog 32 [.pointer l_0, .int .i64 id0] h Q :=
 callsH_of (ann := fun _ => annNil) (tys := fun _ => []) (pl := fun _ => none) Tryz.func32 (by kernel_rfl) (by have e := F32_eq; exact (congrFun (congrFun (congrFun (congrFun (e) l_0) id0) h) Q).symm ▸ H)

/-- headgate/code.Unpairs -/
def F33 (b0a : Option Addr) (b0l : Nat) (b0c : Nat) (h : Heap) (Q : Value → Heap → Prop) : Prop :=
 CallsH Tryz.prog 109 [.slice b0a b0l b0c, .func (.func 110) #[] #[]] h fun r0 h_0 =>
 ∃ (x0a : Option Addr), ∃ (x0l : Nat), ∃ (x0c : Nat), ∃ (x1 : Int), r0 = .tuple #[.slice x0a x0l x0c, .int .i64 x1] ∧
 Q (.tuple #[.slice x0a x0l x0c, .int .i64 x1]) h_0
theorem F33_eq : (fun (b0a : Option Addr) (b0l : Nat) (b0c : Nat) (h : Heap) (Q : Value → Heap → Prop) => fnPT Tryz.prog Tryz.f33 (fun _ => annNil) (fun _ => []) (fun _ => none) [.slice b0a b0l b0c] h Q) = F33 := by kernel_rfl
theorem F33_ok {b0a : Option Addr} {b0l : Nat} {b0c : Nat} {h : Heap} {Q : Value → Heap → Prop} (H : F33 b0a b0l b0c h Q) : CallsH Tryz.prog 33 [.slice b0a b0l b0c] h Q :=
 callsH_of (ann := fun _ => annNil) (tys := fun _ => []) (pl := fun _ => none) Tryz.func33 (by kernel_rfl) (by have e := F33_eq; exact (congrFun (congrFun (congrFun (congrFun (congrFun (e) b0a) b0l) b0c) h) Q).symm ▸ H)

/-- headgate/code.Unrows -/
def F38 (b0a : Option Addr) (b0l : Nat) (b0c : Nat) (h : Heap) (Q : Value → Heap → Prop) : Prop :=
 CallsH Tryz.prog 117 [.slice b0a b0l b0c, .func (.func 118) #[] #[]] h fun r0 h_0 =>
 ∃ (x0a : Option Addr), ∃ (x0l : Nat), ∃ (x0c : Nat), ∃ (x1 : Int), r0 = .tuple #[.slice x0a x0l x0c, .int .i64 x1] ∧
 Q (.tuple #[.slice x0a x0l x0c, .int .i64 x1]) h_0
theorem F38_eq : (fun (b0a : Option Addr) (b0l : Nat) (b0c : Nat) (h : Heap) (Q : Value → Heap → Prop) => fnPT Tryz.prog Tryz.f38 (fun _ => annNil) (fun _ => []) (fun _ => none) [.slice b0a b0l b0c] h Q) = F38 := by kernel_rfl
theorem F38_ok {b0a : Option Addr} {b0l : Nat} {b0c : Nat} {h : Heap} {Q : Value → Heap → Prop} (H : F38 b0a b0l b0c h Q) : CallsH Tryz.prog 38 [.slice b0a b0l b0c] h Q :=
 callsH_of (ann := fun _ => annNil) (tys := fun _ => []) (pl := fun _ => none) Tryz.func38 (by kernel_rfl) (by have e := F38_eq; exact (congrFun (congrFun (congrFun (congrFun (congrFun (e) b0a) b0l) b0c) h) Q).symm ▸ H)

/-- headgate/sink.arrange[[]headgate/api.Value] -/
def F39 (m0 : Option Nat) (n0 : Int) (h : Heap) (Q : Value → Heap → Prop) : Prop :=
 RunH Tryz.prog (Instr.makeSlice 24 (.int .i64 n0) (.int .i64 n0)) h fun r0 h_0 =>
 DSl r0 fun out0a out0l out0c =>
 ∃ es0, mapEs h_0 m0 es0 ∧
 (bif (((es0 : Array MapEntry).size : Int) : Int) != n0 then
  Q (.tuple #[.slice none 0 0, .bool false]) h_0
 else
  LoopH (fun again0 (s0 : Int) h_1 =>
   (bif decide ((s0 : Int) < (out0l : Int)) then
    ∃ es1, mapEs h_1 m0 es1 ∧ ∃ f0, Instr.findNow (.int .i64) (.int .i64 s0) (es1 : Array MapEntry).toList 0 = some f0 ∧
    DSl ((Option.map (fun x => x.2) f0).getD (.slice none 0 0)) fun x0a x0l x0c =>
    (bif !(Option.isSome f0) then
     Q (.tuple #[.slice none 0 0, .bool false]) h_1
    else
     IdxA out0a out0l s0 1 fun a0 =>
     StC h_1 (a0.add 0) (.slice x0a x0l x0c) fun h_3 =>
     again0 (IntKind.wrap .i64 (s0 + 1)) h_3)
   else
    Q (.tuple #[.slice out0a out0l out0c, .bool true]) h_1)) 0 h_0)
theorem F39_eq : (fun (m0 : Option Nat) (n0 : Int) (h : Heap) (Q : Value → Heap → Prop) => fnPT Tryz.prog Tryz.f39 (fun i => bif Nat.beq i 0 then annOne 18 (codI .i64) else annNil) (fun _ => []) (fun _ => none) [.map m0, .int .i64 n0] h Q) = F39 := by kernel_rfl
theorem F39_ok {m0 : Option Nat} {n0 : Int} {h : Heap} {Q : Value → Heap → Prop} (H : F39 m0 n0 h Q) : CallsH Tryz.prog 39 [.map m0, .int .i64 n0] h Q :=
 callsH_of (ann := fun i => bif Nat.beq i 0 then annOne 18 (codI .i64) else annNil) (tys := fun _ => []) (pl := fun _ => none) Tryz.func39 (by kernel_rfl) (by have e := F39_eq; exact (congrFun (congrFun (congrFun (congrFun (e) m0) n0) h) Q).symm ▸ H)

/-- (*headgate/metalog.Log).All -/
def F40 (l_0 : Option Addr) (h : Heap) (Q : Value → Heap → Prop) : Prop :=
 Al h (.map #[] 0) fun b0 h_0 =>
 Al h_0 (.cells #[.map none] 214) fun b1 h_1 =>
 StC h_1 ((Addr.mk b1 0 none).add 0) (.map (some b0)) fun h_3 =>
 (bif !((l_0).isNone) then
  CallsH Tryz.prog 124 [.pointer l_0] h_3 fun r3 h_4 =>
  DM r3 fun x0 =>
  StC h_4 ((Addr.mk b1 0 none).add 0) (.map x0) fun h_6 =>
  Q (.func (.func 125) #[] #[.pointer (some (Addr.mk b1 0 none))]) h_6
 else
  Q (.func (.func 125) #[] #[.pointer (some (Addr.mk b1 0 none))]) h_3)
theorem F40_eq : (fun (l_0 : Option Addr) (h : Heap) (Q : Value → Heap → Prop) => fnPT Tryz.prog Tryz.f40 (fun _ => annNil) (fun _ => []) (fun _ => none) [.pointer l_0] h Q) = F40 := by kernel_rfl
theorem F40_ok {l_0 : Option Addr} {h : Heap} {Q : Value → Heap → Prop} (H : F40 l_0 h Q) : CallsH Tryz.prog 40 [.pointer l_0] h Q :=
 callsH_of (ann := fun _ => annNil) (tys := fun _ => []) (pl := fun _ => none) Tryz.func40 (by kernel_rfl) (by have e := F40_eq; exact (congrFun (congrFun (congrFun (e) l_0) h) Q).symm ▸ H)

/-- headgate/metalog.Open -/
def F41 (f0 : Option Addr) (dir0 : ByteArray) (h : Heap) (Q : Value → Heap → Prop) : Prop :=
 Al h (.cells #[.pointer f0] 39) fun b0 h_0 =>
 Al h_0 (.cells #[.string dir0] 9) fun b1 h_1 =>
 Al h_1 (.cells #[.pointer none] 87) fun b2 h_2 =>
 Al h_2 (.cells #[.int .i64 0] 25) fun b3 h_3 =>
 Ld h_3 (Addr.mk b0 0 none) fun v0 => DP v0 fun x0 =>
 Ld h_3 (Addr.mk b1 0 none) fun v1 => DS v1 fun x1 =>
 CallsH Tryz.prog 127 [.pointer x0, .string x1] h_3 fun r4 h_4 =>
 ∃ (x2a : Option Addr), ∃ (x2l : Nat), ∃ (x2c : Nat), ∃ (x3 : Int), r4 = .tuple #[.slice x2a x2l x2c, .int .i64 x3] ∧
 (bif (x3 : Int) != 0 then
  StC h_4 ((Addr.mk b2 0 none).add 0) (.pointer none) fun h_6 =>
  StC h_6 ((Addr.mk b3 0 none).add 0) (.int .i64 x3) fun h_8 =>
  Ld h_8 (Addr.mk b2 0 none) fun v2 => DP v2 fun res0 =>
  Ld h_8 (Addr.mk b3 0 none) fun v3 => DI .i64 v3 fun res1 =>
  Q (.tuple #[.pointer res0, .int .i64 res1]) h_8
 else
  Ld h_4 (Addr.mk b0 0 none) fun v4 => DP v4 fun x4 =>
  Ld h_4 (Addr.mk b1 0 none) fun v5 => DS v5 fun x5 =>
  Al h_4 (.map #[] 0) fun b4 h_9 =>
  Al h_9 (.map #[] 0) fun b5 h_10 =>
  Al h_10 (.map #[] 0) fun b6 h_11 =>
  Al h_11 (.cells #[.pointer x4, .string x5, .map (some b4), .map (some b5), .map (some b6)] 221) fun b7 h_12 =>
  Al h_12 (.cells #[.pointer none] 87) fun b8 h_13 =>
  StC h_13 ((Addr.mk b8 0 none).add 0) (.pointer (some (Addr.mk b7 0 none))) fun h_15 =>
  LoopH (fun again0 (s0 : Int) h_16 =>
   (bif decide ((s0 : Int) < (x2l : Int)) then
    IdxA x2a x2l s0 1 fun a0 =>
    Ld h_16 a0 fun v6 => DS v6 fun s1 =>
    CallsH Tryz.prog 128 [.string s1] h_16 fun r13 h_17 =>
    ∃ (x6 : Int), ∃ (x7 : Int), ∃ (x8 : Bool), r13 = .tuple #[.int .u8 x6, .int .i64 x7, .bool x8] ∧
    (bif x8 then
     (bif (x6 : Int) == 98 then
      Ld h_17 (Addr.mk b8 0 none) fun v7 => DP v7 fun x9 =>
      NN' x9 fun a1 =>
      Ld h_17 (a1.add 2) fun v8 => DM v8 fun x10 =>
      RunU Tryz.prog (Instr.mapUpdate 214 (.map x10) (.int .i64 x7) (.slice none 0 0)) h_17 fun h_18 =>
      again0 (IntKind.wrap .i64 (s0 + 1)) h_18
     else
      (bif x8 then
       Ld h_17 (Addr.mk b8 0 none) fun v9 => DP v9 fun x11 =>
       NN' x11 fun a2 =>
       Ld h_17 (a2.add 3) fun v10 => DM v10 fun x12 =>
       RunU Tryz.prog (Instr.mapUpdate 219 (.map x12) (.int .i64 x7) (.bool true)) h_17 fun h_19 =>
       again0 (IntKind.wrap .i64 (s0 + 1)) h_19
      else
       again0 (IntKind.wrap .i64 (s0 + 1)) h_17))
    else
     (bif x8 then
      Ld h_17 (Addr.mk b8 0 none) fun v11 => DP v11 fun x13 =>
      NN' x13 fun a3 =>
      Ld h_17 (a3.add 3) fun v12 => DM v12 fun x14 =>
      RunU Tryz.prog (Instr.mapUpdate 219 (.map x14) (.int .i64 x7) (.bool true)) h_17 fun h_20 =>
      again0 (IntKind.wrap .i64 (s0 + 1)) h_20
     else
      again0 (IntKind.wrap .i64 (s0 + 1)) h_17))
   else
    Ld h_16 (Addr.mk b8 0 none) fun v13 => DP v13 fun x15 =>
    CallsH Tryz.prog 129 [.pointer x15] h_16 fun r17 h_21 =>
    DI .i64 r17 fun n0 =>
    (bif decide ((n0 : Int) ≥ 0) then
     Ld h_21 (Addr.mk b0 0 none) fun v14 => DP v14 fun x16 =>
     Ld h_21 (Addr.mk b1 0 none) fun v15 => DS v15 fun x17 =>
     CallsH Tryz.prog 35 [.int .i64 n0] h_21 fun r18 h_22 =>
     DS r18 fun x18 =>
     (Ld h_22 (Addr.mk b0 0 none) fun v16 => DP v16 fun x19 =>
     SameV (some (.pointer x16)) (.pointer x19)) ∧
     (Ld h_22 (Addr.mk b1 0 none) fun v17 => DS v17 fun x20 =>
     SameV (some (.string x17)) (.string x20)) ∧
     (⟨#[102, 46]⟩ : ByteArray).size + (x18 : ByteArray).size ≤ 9223372036854775807 ∧
     CallsH Tryz.prog 34 [.pointer x16, .string x17, .string (⟨#[102, 46]⟩ ++ x18)] h_22 fun r19 h_23 =>
     ∃ (x21a : Option Addr), ∃ (x21l : Nat), ∃ (x21c : Nat), ∃ (x22 : Int), r19 = .tuple #[.slice x21a x21l x21c, .int .i64 x22] ∧
     (bif (x22 : Int) != 0 then
      StC h_23 ((Addr.mk b2 0 none).add 0) (.pointer none) fun h_25 =>
      StC h_25 ((Addr.mk b3 0 none).add 0) (.int .i64 x22) fun h_27 =>
      Ld h_27 (Addr.mk b2 0 none) fun v18 => DP v18 fun res2 =>
      Ld h_27 (Addr.mk b3 0 none) fun v19 => DI .i64 v19 fun res3 =>
      Q (.tuple #[.pointer res2, .int .i64 res3]) h_27
     else
      Ld h_23 (Addr.mk b8 0 none) fun v20 => DP v20 fun x23 =>
      CallsH Tryz.prog 130 [.slice x21a x21l x21c, .int .i64 n0] h_23 fun r22 h_28 =>
      ∃ (x24 : Option Nat), ∃ (x25 : Bool), r22 = .tuple #[.map x24, .bool x25] ∧
      (Ld h_28 (Addr.mk b8 0 none) fun v21 => DP v21 fun x26 =>
      SameV (some (.pointer x23)) (.pointer x26)) ∧
      NN' x23 fun a4 =>
      StC h_28 ((a4.add 4).add 0) (.map x24) fun h_30 =>
      (SameV (some (.bool x25)) (.bool x25)) ∧
      (bif !x25 then
       StC h_30 ((Addr.mk b2 0 none).add 0) (.pointer none) fun h_32 =>
       StC h_32 ((Addr.mk b3 0 none).add 0) (.int .i64 70) fun h_34 =>
       Ld h_34 (Addr.mk b2 0 none) fun v22 => DP v22 fun res4 =>
       Ld h_34 (Addr.mk b3 0 none) fun v23 => DI .i64 v23 fun res5 =>
       Q (.tuple #[.pointer res4, .int .i64 res5]) h_34
      else
       Ld h_30 (Addr.mk b8 0 none) fun v24 => DP v24 fun x27 =>
       NN' x27 fun a5 =>
       Ld h_30 (a5.add 2) fun v25 => DM v25 fun x28 =>
       CallsH Tryz.prog 126 [.map x28] h_30 fun r26 h_35 =>
       ∃ (x29 : Value), r26 = x29 ∧
       RangeFn Tryz.prog x29 2 none h_35 (fun l_0 rec_0 args0 h_36 Q_0 =>
        ∃ (y0 : Int), ∃ (y1a : Option Addr), ∃ (y1l : Nat), ∃ (y1c : Nat), args0 = [.int .i64 y0, .slice y1a y1l y1c] ∧
        h_36[l_0]? = some (rec_0 .ready none) ∧
        Ld (h_36.setIfInBounds l_0 (rec_0 .busy none)) (Addr.mk b0 0 none) fun v26 => DP v26 fun x30 =>
        Ld (h_36.setIfInBounds l_0 (rec_0 .busy none)) (Addr.mk b1 0 none) fun v27 => DS v27 fun x31 =>
        CallsH Tryz.prog 35 [.int .i64 y0] (h_36.setIfInBounds l_0 (rec_0 .busy none)) fun r27 h_37 =>
        DS r27 fun x32 =>
        (Ld h_37 (Addr.mk b0 0 none) fun v28 => DP v28 fun x33 =>
        SameV (some (.pointer x30)) (.pointer x33)) ∧
        (Ld h_37 (Addr.mk b1 0 none) fun v29 => DS v29 fun x34 =>
        SameV (some (.string x31)) (.string x34)) ∧
        (⟨#[98, 46]⟩ : ByteArray).size + (x32 : ByteArray).size ≤ 9223372036854775807 ∧
        CallsH Tryz.prog 34 [.pointer x30, .string x31, .string (⟨#[98, 46]⟩ ++ x32)] h_37 fun r28 h_38 =>
        ∃ (x35a : Option Addr), ∃ (x35l : Nat), ∃ (x35c : Nat), ∃ (x36 : Int), r28 = .tuple #[.slice x35a x35l x35c, .int .i64 x36] ∧
        (bif (x36 : Int) != 0 then
         StC h_38 ((Addr.mk b2 0 none).add 0) (.pointer none) fun h_40 =>
         StC h_40 ((Addr.mk b3 0 none).add 0) (.int .i64 x36) fun h_42 =>
         h_42[l_0]? = some (rec_0 .busy none) ∧ Q_0 (.bool false) (h_42.setIfInBounds l_0 (rec_0 .done (some .ret)))
        else
         Ld h_38 (Addr.mk b8 0 none) fun v30 => DP v30 fun x37 =>
         NN' x37 fun a6 =>
         Ld h_38 (a6.add 2) fun v31 => DM v31 fun x38 =>
         RunU Tryz.prog (Instr.mapUpdate 214 (.map x38) (.int .i64 y0) (.slice x35a x35l x35c)) h_38 fun h_43 =>
         h_43[l_0]? = some (rec_0 .busy none) ∧ Q_0 (.bool true) (h_43.setIfInBounds l_0 (rec_0 .ready none)))) (fun pend0 h_44 =>
        (pend0 = none ∨ pend0 = some (.ret)) ∧
        (pend0 = none →
         Ld h_44 (Addr.mk b8 0 none) fun v32 => DP v32 fun x39 =>
         StC h_44 ((Addr.mk b2 0 none).add 0) (.pointer x39) fun h_46 =>
         StC h_46 ((Addr.mk b3 0 none).add 0) (.int .i64 0) fun h_48 =>
         h_48[h_35.size]? = some (.deferred (some [])) ∧
         Ld (h_48.setIfInBounds h_35.size (.deferred none)) (Addr.mk b2 0 none) fun v33 => DP v33 fun res6 =>
         Ld (h_48.setIfInBounds h_35.size (.deferred none)) (Addr.mk b3 0 none) fun v34 => DI .i64 v34 fun res7 =>
         Q (.tuple #[.pointer res6, .int .i64 res7]) (h_48.setIfInBounds h_35.size (.deferred none))) ∧
        (pend0 = some (.ret) →
         h_44[h_35.size]? = some (.deferred (some [])) ∧
         Ld (h_44.setIfInBounds h_35.size (.deferred none)) (Addr.mk b2 0 none) fun v35 => DP v35 fun res8 =>
         Ld (h_44.setIfInBounds h_35.size (.deferred none)) (Addr.mk b3 0 none) fun v36 => DI .i64 v36 fun res9 =>
         Q (.tuple #[.pointer res8, .int .i64 res9]) (h_44.setIfInBounds h_35.size (.deferred none))))))
    else
     Ld h_21 (Addr.mk b8 0 none) fun v37 => DP v37 fun x40 =>
     NN' x40 fun a7 =>
     Ld h_21 (a7.add 2) fun v38 => DM v38 fun x41 =>
     CallsH Tryz.prog 126 [.map x41] h_21 fun r34 h_49 =>
     ∃ (x42 : Value), r34 = x42 ∧
     RangeFn Tryz.prog x42 2 none h_49 (fun l_1 rec_1 args1 h_50 Q_1 =>
      ∃ (y2 : Int), ∃ (y3a : Option Addr), ∃ (y3l : Nat), ∃ (y3c : Nat), args1 = [.int .i64 y2, .slice y3a y3l y3c] ∧
      h_50[l_1]? = some (rec_1 .ready none) ∧
      Ld (h_50.setIfInBounds l_1 (rec_1 .busy none)) (Addr.mk b0 0 none) fun v39 => DP v39 fun x43 =>
      Ld (h_50.setIfInBounds l_1 (rec_1 .busy none)) (Addr.mk b1 0 none) fun v40 => DS v40 fun x44 =>
      CallsH Tryz.prog 35 [.int .i64 y2] (h_50.setIfInBounds l_1 (rec_1 .busy none)) fun r35 h_51 =>
      DS r35 fun x45 =>
      (Ld h_51 (Addr.mk b0 0 none) fun v41 => DP v41 fun x46 =>
      SameV (some (.pointer x43)) (.pointer x46)) ∧
      (Ld h_51 (Addr.mk b1 0 none) fun v42 => DS v42 fun x47 =>
      SameV (some (.string x44)) (.string x47)) ∧
      (⟨#[98, 46]⟩ : ByteArray).size + (x45 : ByteArray).size ≤ 9223372036854775807 ∧
      CallsH Tryz.prog 34 [.pointer x43, .string x44, .string (⟨#[98, 46]⟩ ++ x45)] h_51 fun r36 h_52 =>
      ∃ (x48a : Option Addr), ∃ (x48l : Nat), ∃ (x48c : Nat), ∃ (x49 : Int), r36 = .tuple #[.slice x48a x48l x48c, .int .i64 x49] ∧
      (bif (x49 : Int) != 0 then
       StC h_52 ((Addr.mk b2 0 none).add 0) (.pointer none) fun h_54 =>
       StC h_54 ((Addr.mk b3 0 none).add 0) (.int .i64 x49) fun h_56 =>
       h_56[l_1]? = some (rec_1 .busy none) ∧ Q_1 (.bool false) (h_56.setIfInBounds l_1 (rec_1 .done (some .ret)))
      else
       Ld h_52 (Addr.mk b8 0 none) fun v43 => DP v43 fun x50 =>
       NN' x50 fun a8 =>
       Ld h_52 (a8.add 2) fun v44 => DM v44 fun x51 =>
       RunU Tryz.prog (Instr.mapUpdate 214 (.map x51) (.int .i64 y2) (.slice x48a x48l x48c)) h_52 fun h_57 =>
       h_57[l_1]? = some (rec_1 .busy none) ∧ Q_1 (.bool true) (h_57.setIfInBounds l_1 (rec_1 .ready none)))) (fun pend1 h_58 =>
      (pend1 = none ∨ pend1 = some (.ret)) ∧
      (pend1 = none →
       Ld h_58 (Addr.mk b8 0 none) fun v45 => DP v45 fun x52 =>
       StC h_58 ((Addr.mk b2 0 none).add 0) (.pointer x52) fun h_60 =>
       StC h_60 ((Addr.mk b3 0 none).add 0) (.int .i64 0) fun h_62 =>
       h_62[h_49.size]? = some (.deferred (some [])) ∧
       Ld (h_62.setIfInBounds h_49.size (.deferred none)) (Addr.mk b2 0 none) fun v46 => DP v46 fun res10 =>
       Ld (h_62.setIfInBounds h_49.size (.deferred none)) (Addr.mk b3 0 none) fun v47 => DI .i64 v47 fun res11 =>
       Q (.tuple #[.pointer res10, .int .i64 res11]) (h_62.setIfInBounds h_49.size (.deferred none))) ∧
      (pend1 = some (.ret) →
       h_58[h_49.size]? = some (.deferred (some [])) ∧
       Ld (h_58.setIfInBounds h_49.size (.deferred none)) (Addr.mk b2 0 none) fun v48 => DP v48 fun res12 =>
       Ld (h_58.setIfInBounds h_49.size (.deferred none)) (Addr.mk b3 0 none) fun v49 => DI .i64 v49 fun res13 =>
       Q (.tuple #[.pointer res12, .int .i64 res13]) (h_58.setIfInBounds h_49.size (.deferred none))))))) 0 h_15)
theorem F41_eq : (fun (f0 : Option Addr) (dir0 : ByteArray) (h : Heap) (Q : Value → Heap → Prop) => fnPT Tryz.prog Tryz.f41 (fun i => bif Nat.beq i 0 then annOne 39 (codI .i64) else annNil) (fun i => bif Nat.beq i 3 then [2, 85] else []) (fun i => bif Nat.beq i 16 then some ⟨[0, 0, 0, 4, 12, 31, 63, 127, 127, 255, 1023], 40⟩ else bif Nat.beq i 20 then some ⟨[0, 0, 0, 6, 14, 30, 30, 63, 191, 447, 1023], 520⟩ else bif Nat.beq i 25 then some ⟨[0, 0, 0, 4, 12, 31, 63, 127, 127, 255, 1023], 40⟩ else none) [.pointer f0, .string dir0] h Q) = F41 := by kernel_rfl
theorem F41_ok {f0 : Option Addr} {dir0 : ByteArray} {h : Heap} {Q : Value → Heap → Prop} (H : F41 f0 dir0 h Q) : CallsH Tryz.prog 41 [.pointer f0, .string dir0] h Q :=
 callsH_of (ann := fun i => bif Nat.beq i 0 then annOne 39 (codI .i64) else annNil) (tys := fun i => bif Nat.beq i 3 then [2, 85] else []) (pl := fun i => bif Nat.beq i 16 then some ⟨[0, 0, 0, 4, 12, 31, 63, 127, 127, 255, 1023], 40⟩ else bif Nat.beq i 20 then some ⟨[0, 0, 0, 6, 14, 30, 30, 63, 191, 447, 1023], 520⟩ else bif Nat.beq i 25 then some ⟨[0, 0, 0, 4, 12, 31, 63, 127, 127, 255, 1023], 40⟩ else none) Tryz.func41 (by kernel_rfl) (by have e := F41_eq; exact (congrFun (congrFun (congrFun (congrFun (e) f0) dir0) h) Q).symm ▸ H)

/-- (*headgate/sink.Sink).sweep -/
def F42 (s0 : Option Addr) (h : Heap) (Q : Value → Heap → Prop) : Prop :=
 NN' s0 fun a0 =>
 Ld h (a0.add 0) fun v0 => DP v0 fun x0 =>
 CallsH Tryz.prog 127 [.pointer x0, .string ⟨#[111, 117, 116]⟩] h fun r0 h_0 =>
 ∃ (x1a : Option Addr), ∃ (x1l : Nat), ∃ (x1c : Nat), ∃ (x2 : Int), r0 = .tuple #[.slice x1a x1l x1c, .int .i64 x2] ∧
 (bif (x2 : Int) != 0 then
  Q (.int .i64 x2) h_0
 else
  LoopH (fun again0 (s1 : Bool × Int) h_1 =>
   (bif decide ((s1.2 : Int) < (x1l : Int)) then
    IdxA x1a x1l s1.2 1 fun a1 =>
    Ld h_1 a1 fun v1 => DS v1 fun n0 =>
    CallsH Tryz.prog 131 [.string n0] h_1 fun r1 h_2 =>
    ∃ (x3 : Int), ∃ (x4 : Bool), r1 = .tuple #[.int .i64 x3, .bool x4] ∧
    (bif !x4 then
     again0 (s1.1, IntKind.wrap .i64 (s1.2 + 1)) h_2
    else
     NN' s0 fun a2 =>
     Ld h_2 (a2.add 3) fun v2 => DI .i64 v2 fun x5 =>
     (bif decide ((x3 : Int) < x5) then
      again0 (s1.1, IntKind.wrap .i64 (s1.2 + 1)) h_2
     else
      NN' s0 fun a3 =>
      Ld h_2 (a3.add 0) fun v3 => DP v3 fun x6 =>
      CallsH Tryz.prog 84 [.pointer x6, .string ⟨#[111, 117, 116]⟩, .string n0] h_2 fun r2 h_3 =>
      DI .i64 r2 fun e0 =>
      (bif (e0 : Int) != 0 then
       Q (.int .i64 e0) h_3
      else
       again0 (true, IntKind.wrap .i64 (s1.2 + 1)) h_3)))
   else
    (bif s1.1 then
     NN' s0 fun a4 =>
     Ld h_1 (a4.add 0) fun v4 => DP v4 fun x7 =>
     CallsH Tryz.prog 82 [.pointer x7, .string ⟨#[111, 117, 116]⟩] h_1 fun r3 h_4 =>
     DI .i64 r3 fun x8 =>
     Q (.int .i64 x8) h_4
    else
     Q (.int .i64 0) h_1))) (false, 0) h_0)
theorem F42_eq : (fun (s0 : Option Addr) (h : Heap) (Q : Value → Heap → Prop) => fnPT Tryz.prog Tryz.f42 (fun i => bif Nat.beq i 0 then annCons 5 (codB) (annOne 24 (codI .i64)) else annNil) (fun _ => []) (fun _ => none) [.pointer s0] h Q) = F42 := by kernel_rfl
theorem F42_ok {s0 : Option Addr} {h : Heap} {Q : Value → Heap → Prop} (H : F42 s0 h Q) : CallsH Tryz.prog 42 [.pointer s0] h Q :=
 callsH_of (ann := fun i => bif Nat.beq i 0 then annCons 5 (codB) (annOne 24 (codI .i64)) else annNil) (tys := fun _ => []) (pl := fun _ => none) Tryz.func42 (by kernel_rfl) (by have e := F42_eq; exact (congrFun (congrFun (congrFun (e) s0) h) Q).symm ▸ H)

/-- (*headgate/sink.Sink).sorted -/
def F43 (s0 : Option Addr) (rows0a : Option Addr) (rows0l : Nat) (rows0c : Nat) (h : Heap) (Q : Value → Heap → Prop) : Prop :=
 Al h (.cells #[.slice none 0 0, .slice none 0 0, .slice none 0 0, .slice none 0 0] 111) fun b0 h_0 =>
 Al h_0 (.cells #[.slice none 0 0, .slice none 0 0, .slice none 0 0, .slice none 0 0] 111) fun b1 h_1 =>
 LoopH (fun again0 (s1 : Int) h_2 =>
  (bif decide ((s1 : Int) < (rows0l : Int)) then
   IdxA rows0a rows0l s1 1 fun a0 =>
   Ld h_2 a0 fun v0 => DSl v0 fun r2a r2l r2c =>
   CallsH Tryz.prog 132 [.slice r2a r2l r2c] h_2 fun r3 h_3 =>
   ∃ (x0 : ByteArray), ∃ (x1 : Int), r3 = .tuple #[.string x0, .int .i64 x1] ∧
   (bif (x1 : Int) != 0 then
    Ld h_3 ((Addr.mk b1 0 none).add 0) fun c0 =>
    Ld h_3 ((Addr.mk b1 0 none).add 1) fun c1 =>
    Ld h_3 ((Addr.mk b1 0 none).add 2) fun c2 =>
    Ld h_3 ((Addr.mk b1 0 none).add 3) fun c3 =>
    ∃ (x2a : Option Addr), ∃ (x2l : Nat), ∃ (x2c : Nat), ∃ (x3a : Option Addr), ∃ (x3l : Nat), ∃ (x3c : Nat), ∃ (x4a : Option Addr), ∃ (x4l : Nat), ∃ (x4c : Nat), ∃ (x5a : Option Addr), ∃ (x5l : Nat), ∃ (x5c : Nat), (Value.agg #[c0, c1, c2, c3]) = .agg #[.slice x2a x2l x2c, .slice x3a x3l x3c, .slice x4a x4l x4c, .slice x5a x5l x5c] ∧
    StC h_3 ((Addr.mk b0 0 none).add 0) (.slice x2a x2l x2c) fun h_5 =>
    StC h_5 ((Addr.mk b0 0 none).add 1) (.slice x3a x3l x3c) fun h_6 =>
    StC h_6 ((Addr.mk b0 0 none).add 2) (.slice x4a x4l x4c) fun h_7 =>
    StC h_7 ((Addr.mk b0 0 none).add 3) (.slice x5a x5l x5c) fun h_8 =>
    Ld h_8 ((Addr.mk b0 0 none).add 0) fun c4 =>
    Ld h_8 ((Addr.mk b0 0 none).add 1) fun c5 =>
    Ld h_8 ((Addr.mk b0 0 none).add 2) fun c6 =>
    Ld h_8 ((Addr.mk b0 0 none).add 3) fun c7 =>
    ∃ (res0a : Option Addr), ∃ (res0l : Nat), ∃ (res0c : Nat), ∃ (res1a : Option Addr), ∃ (res1l : Nat), ∃ (res1c : Nat), ∃ (res2a : Option Addr), ∃ (res2l : Nat), ∃ (res2c : Nat), ∃ (res3a : Option Addr), ∃ (res3l : Nat), ∃ (res3c : Nat), (Value.agg #[c4, c5, c6, c7]) = .agg #[.slice res0a res0l res0c, .slice res1a res1l res1c, .slice res2a res2l res2c, .slice res3a res3l res3c] ∧
    Q (.tuple #[.agg #[.slice res0a res0l res0c, .slice res1a res1l res1c, .slice res2a res2l res2c, .slice res3a res3l res3c], .bool false]) h_8
   else
    Al h_3 (.cells #[.slice r2a r2l r2c] 81) fun b2 h_9 =>
    CallsH Tryz.prog 133 [.slice (some (Addr.mk b2 0 none)) 1 1] h_9 fun r6 h_10 =>
    ∃ (x6a : Option Addr), ∃ (x6l : Nat), ∃ (x6c : Nat), ∃ (x7 : Int), r6 = .tuple #[.slice x6a x6l x6c, .int .i64 x7] ∧
    (bif (x7 : Int) != 0 then
     Ld h_10 ((Addr.mk b1 0 none).add 0) fun c8 =>
     Ld h_10 ((Addr.mk b1 0 none).add 1) fun c9 =>
     Ld h_10 ((Addr.mk b1 0 none).add 2) fun c10 =>
     Ld h_10 ((Addr.mk b1 0 none).add 3) fun c11 =>
     ∃ (x8a : Option Addr), ∃ (x8l : Nat), ∃ (x8c : Nat), ∃ (x9a : Option Addr), ∃ (x9l : Nat), ∃ (x9c : Nat), ∃ (x10a : Option Addr), ∃ (x10l : Nat), ∃ (x10c : Nat), ∃ (x11a : Option Addr), ∃ (x11l : Nat), ∃ (x11c : Nat), (Value.agg #[c8, c9, c10, c11]) = .agg #[.slice x8a x8l x8c, .slice x9a x9l x9c, .slice x10a x10l x10c, .slice x11a x11l x11c] ∧
     StC h_10 ((Addr.mk b0 0 none).add 0) (.slice x8a x8l x8c) fun h_12 =>
     StC h_12 ((Addr.mk b0 0 none).add 1) (.slice x9a x9l x9c) fun h_13 =>
     StC h_13 ((Addr.mk b0 0 none).add 2) (.slice x10a x10l x10c) fun h_14 =>
     StC h_14 ((Addr.mk b0 0 none).add 3) (.slice x11a x11l x11c) fun h_15 =>
     Ld h_15 ((Addr.mk b0 0 none).add 0) fun c12 =>
     Ld h_15 ((Addr.mk b0 0 none).add 1) fun c13 =>
     Ld h_15 ((Addr.mk b0 0 none).add 2) fun c14 =>
     Ld h_15 ((Addr.mk b0 0 none).add 3) fun c15 =>
     ∃ (res4a : Option Addr), ∃ (res4l : Nat), ∃ (res4c : Nat), ∃ (res5a : Option Addr), ∃ (res5l : Nat), ∃ (res5c : Nat), ∃ (res6a : Option Addr), ∃ (res6l : Nat), ∃ (res6c : Nat), ∃ (res7a : Option Addr), ∃ (res7l : Nat), ∃ (res7c : Nat), (Value.agg #[c12, c13, c14, c15]) = .agg #[.slice res4a res4l res4c, .slice res5a res5l res5c, .slice res6a res6l res6c, .slice res7a res7l res7c] ∧
     Q (.tuple #[.agg #[.slice res4a res4l res4c, .slice res5a res5l res5c, .slice res6a res6l res6c, .slice res7a res7l res7c], .bool false]) h_15
    else
     NN' s0 fun a1 =>
     Ld h_10 (a1.add 2) fun v3 => DI .i64 v3 fun x12 =>
     CallsH Tryz.prog 134 [.string x0] h_10 fun r8 h_16 =>
     DI .u32 r8 fun x13 =>
     (SameV (some (.pointer s0)) (.pointer s0)) ∧
     (NN' s0 fun a2 =>
     SameV (some (.pointer (some a1))) (.pointer (some a2))) ∧
     (SameV (some (.pointer (some (a1.add 2)))) (.pointer (some (a1.add 2)))) ∧
     (Ld h_16 (a1.add 2) fun v4 => DI .i64 v4 fun x14 =>
     SameV (some (.int .i64 x12)) (.int .i64 x14)) ∧
     (SameV (some (.int .u32 (IntKind.wrap .u32 x12))) (.int .u32 (IntKind.wrap .u32 x12))) ∧
     ((IntKind.wrap .u32 x12) : Int) ≠ 0 ∧
     0 ≤ (Int.tmod x13 (IntKind.wrap .u32 x12) : Int) ∧ (Int.tmod x13 (IntKind.wrap .u32 x12) : Int) < 4 ∧
     Ld h_16 ((Addr.mk b1 0 none).add ((Int.tmod x13 (IntKind.wrap .u32 x12) : Int).toNat * 1)) fun v5 => DSl v5 fun x15a x15l x15c =>
     ∃ bs0 : ByteArray, BytesIn h_16 x6a x6l bs0 ∧
     CallsH Tryz.prog 35 [.int .i64 s1] h_16 fun r9 h_17 =>
     DS r9 fun x16 =>
     (SameV (some (.int .u32 (Int.tmod x13 (IntKind.wrap .u32 x12)))) (.int .u32 (Int.tmod x13 (IntKind.wrap .u32 x12)))) ∧
     (SameV (some (.int .u32 (Int.tmod x13 (IntKind.wrap .u32 x12)))) (.int .u32 (Int.tmod x13 (IntKind.wrap .u32 x12)))) ∧
     (0 ≤ (Int.tmod x13 (IntKind.wrap .u32 x12) : Int) ∧ (Int.tmod x13 (IntKind.wrap .u32 x12) : Int) < 4 ∧
     SameV (some (.pointer (some ((Addr.mk b1 0 none).add ((Int.tmod x13 (IntKind.wrap .u32 x12) : Int).toNat * 1))))) (.pointer (some ((Addr.mk b1 0 none).add ((Int.tmod x13 (IntKind.wrap .u32 x12) : Int).toNat * 1))))) ∧
     (Ld h_17 ((Addr.mk b1 0 none).add ((Int.tmod x13 (IntKind.wrap .u32 x12) : Int).toNat * 1)) fun v6 => DSl v6 fun x17a x17l x17c =>
     SameV (some (.slice x15a x15l x15c)) (.slice x17a x17l x17c)) ∧
     (SameV (some (.slice x6a x6l x6c)) (.slice x6a x6l x6c)) ∧
     (∃ bs1 : ByteArray, BytesIn h_17 x6a x6l bs1 ∧
     SameV (some (.string bs0)) (.string bs1)) ∧
     Al h_17 (.cells #[.string x16, .string bs0] 96) fun b3 h_18 =>
     (SameV (some (.int .u32 (Int.tmod x13 (IntKind.wrap .u32 x12)))) (.int .u32 (Int.tmod x13 (IntKind.wrap .u32 x12)))) ∧
     (SameV (some (.int .u32 (Int.tmod x13 (IntKind.wrap .u32 x12)))) (.int .u32 (Int.tmod x13 (IntKind.wrap .u32 x12)))) ∧
     (0 ≤ (Int.tmod x13 (IntKind.wrap .u32 x12) : Int) ∧ (Int.tmod x13 (IntKind.wrap .u32 x12) : Int) < 4 ∧
     SameV (some (.pointer (some ((Addr.mk b1 0 none).add ((Int.tmod x13 (IntKind.wrap .u32 x12) : Int).toNat * 1))))) (.pointer (some ((Addr.mk b1 0 none).add ((Int.tmod x13 (IntKind.wrap .u32 x12) : Int).toNat * 1))))) ∧
     (Ld h_18 ((Addr.mk b1 0 none).add ((Int.tmod x13 (IntKind.wrap .u32 x12) : Int).toNat * 1)) fun v7 => DSl v7 fun x18a x18l x18c =>
     SameV (some (.slice x15a x15l x15c)) (.slice x18a x18l x18c)) ∧
     RunH Tryz.prog (Builtin.append_ #[91, 91] 91 #[.slice x15a x15l x15c, .slice (some (Addr.mk b3 0 none)) 1 1]) h_18 fun r11 h_19 =>
     DSl r11 fun x19a x19l x19c =>
     (SameV (some (.int .u32 (Int.tmod x13 (IntKind.wrap .u32 x12)))) (.int .u32 (Int.tmod x13 (IntKind.wrap .u32 x12)))) ∧
     0 ≤ (Int.tmod x13 (IntKind.wrap .u32 x12) : Int) ∧ (Int.tmod x13 (IntKind.wrap .u32 x12) : Int) < 4 ∧
     StC h_19 (((Addr.mk b1 0 none).add ((Int.tmod x13 (IntKind.wrap .u32 x12) : Int).toNat * 1)).add 0) (.slice x19a x19l x19c) fun h_21 =>
     again0 (IntKind.wrap .i64 (s1 + 1)) h_21))
  else
   Ld h_2 ((Addr.mk b1 0 none).add 0) fun c16 =>
   Ld h_2 ((Addr.mk b1 0 none).add 1) fun c17 =>
   Ld h_2 ((Addr.mk b1 0 none).add 2) fun c18 =>
   Ld h_2 ((Addr.mk b1 0 none).add 3) fun c19 =>
   ∃ (x20a : Option Addr), ∃ (x20l : Nat), ∃ (x20c : Nat), ∃ (x21a : Option Addr), ∃ (x21l : Nat), ∃ (x21c : Nat), ∃ (x22a : Option Addr), ∃ (x22l : Nat), ∃ (x22c : Nat), ∃ (x23a : Option Addr), ∃ (x23l : Nat), ∃ (x23c : Nat), (Value.agg #[c16, c17, c18, c19]) = .agg #[.slice x20a x20l x20c, .slice x21a x21l x21c, .slice x22a x22l x22c, .slice x23a x23l x23c] ∧
   StC h_2 ((Addr.mk b0 0 none).add 0) (.slice x20a x20l x20c) fun h_23 =>
   StC h_23 ((Addr.mk b0 0 none).add 1) (.slice x21a x21l x21c) fun h_24 =>
   StC h_24 ((Addr.mk b0 0 none).add 2) (.slice x22a x22l x22c) fun h_25 =>
   StC h_25 ((Addr.mk b0 0 none).add 3) (.slice x23a x23l x23c) fun h_26 =>
   Ld h_26 ((Addr.mk b0 0 none).add 0) fun c20 =>
   Ld h_26 ((Addr.mk b0 0 none).add 1) fun c21 =>
   Ld h_26 ((Addr.mk b0 0 none).add 2) fun c22 =>
   Ld h_26 ((Addr.mk b0 0 none).add 3) fun c23 =>
   ∃ (res8a : Option Addr), ∃ (res8l : Nat), ∃ (res8c : Nat), ∃ (res9a : Option Addr), ∃ (res9l : Nat), ∃ (res9c : Nat), ∃ (res10a : Option Addr), ∃ (res10l : Nat), ∃ (res10c : Nat), ∃ (res11a : Option Addr), ∃ (res11l : Nat), ∃ (res11c : Nat), (Value.agg #[c20, c21, c22, c23]) = .agg #[.slice res8a res8l res8c, .slice res9a res9l res9c, .slice res10a res10l res10c, .slice res11a res11l res11c] ∧
   Q (.tuple #[.agg #[.slice res8a res8l res8c, .slice res9a res9l res9c, .slice res10a res10l res10c, .slice res11a res11l res11c], .bool true]) h_26)) 0 h_1
theorem F43_eq : (fun (s0 : Option Addr) (rows0a : Option Addr) (rows0l : Nat) (rows0c : Nat) (h : Heap) (Q : Value → Heap → Prop) => fnPT Tryz.prog Tryz.f43 (fun i => bif Nat.beq i 0 then annOne 15 (codI .i64) else annNil) (fun _ => []) (fun i => bif Nat.beq i 11 then some ⟨[0, 1, 0, 4, 12, 28, 60, 127, 255], 2⟩ else bif Nat.beq i 12 then some ⟨[0, 0, 2, 6, 0, 16, 0, 64, 240, 496, 1022, 2047, 4095], 5664⟩ else none) [.pointer s0, .slice rows0a rows0l rows0c] h Q) = F43 := by kernel_rfl
theorem F43_ok {s0 : Option Addr} {rows0a : Option Addr} {rows0l : Nat} {rows0c : Nat} {h : Heap} {Q : Value → Heap → Prop} (H : F43 s0 rows0a rows0l rows0c h Q) : CallsH Tryz.prog 43 [.pointer s0, .slice rows0a rows0l rows0c] h Q :=
 callsH_of (ann := fun i => bif Nat.beq i 0 then annOne 15 (codI .i64) else annNil) (tys := fun _ => []) (pl := fun i => bif Nat.beq i 11 then some ⟨[0, 1, 0, 4, 12, 28, 60, 127, 255], 2⟩ else bif Nat.beq i 12 then some ⟨[0, 0, 2, 6, 0, 16, 0, 64, 240, 496, 1022, 2047, 4095], 5664⟩ else none) Tryz.func43 (by kernel_rfl) (by have e := F43_eq; exact (congrFun (congrFun (congrFun (congrFun (congrFun (congrFun (e) s0) rows0a) rows0l) rows0c) h) Q).symm ▸ H)

/-- headgate/code.Pairs -/
def F44 (l_0a : Option Addr) (l_0l : Nat) (l_0c : Nat) (h : Heap) (Q : Value → Heap → Prop) : Prop :=
 CallsH Tryz.prog 136 [.slice l_0a l_0l l_0c, .func (.func 137) #[] #[]] h fun r0 h_0 =>
 DSl r0 fun x0a x0l x0c =>
 CallsH Tryz.prog 135 [.slice x0a x0l x0c] h_0 fun r1 h_1 =>
 ∃ (x1a : Option Addr), ∃ (x1l : Nat), ∃ (x1c : Nat), ∃ (x2 : Int), r1 = .tuple #[.slice x1a x1l x1c, .int .i64 x2] ∧
 Q (.tuple #[.slice x1a x1l x1c, .int .i64 x2]) h_1
theorem F44_eq : (fun (l_0a : Option Addr) (l_0l : Nat) (l_0c : Nat) (h : Heap) (Q : Value → Heap → Prop) => fnPT Tryz.prog Tryz.f44 (fun _ => annNil) (fun _ => []) (fun _ => none) [.slice l_0a l_0l l_0c] h Q) = F44 := by kernel_rfl
theorem F44_ok {l_0a : Option Addr} {l_0l : Nat} {l_0c : Nat} {h : Heap} {Q : Value → Heap → Prop} (H : F44 l_0a l_0l l_0c h Q) : CallsH Tryz.prog 44 [.slice l_0a l_0l l_0c] h Q :=
 callsH_of (ann := fun _ => annNil) (tys := fun _ => []) (pl := fun _ => none) Tryz.func44 (by kernel_rfl) (by have e := F44_eq; exact (congrFun (congrFun (congrFun (congrFun (congrFun (e) l_0a) l_0l) l_0c) h) Q).symm ▸ H)

/-- headgate/sink.name -/
def F46 (id0 : Int) (part0 : Int) (h : Heap) (Q : Value → Heap → Prop) : Prop :=
 CallsH Tryz.prog 35 [.int .i64 id0] h fun r0 h_0 =>
 DS r0 fun x0 =>
 (⟨#[114, 46]⟩ : ByteArray).size + (x0 : ByteArray).size ≤ 9223372036854775807 ∧
 (⟨#[114, 46]⟩ ++ x0 : ByteArray).size + (⟨#[46]⟩ : ByteArray).size ≤ 9223372036854775807 ∧
 ((⟨#[114, 46]⟩ ++ x0) ++ ⟨#[46]⟩ : ByteArray).size + (Utf8.encode (IntKind.wrap .i32 (IntKind.wrap .i64 (48 + part0))) : ByteArray).size ≤ 9223372036854775807 ∧
 Q (.string (((⟨#[114, 46]⟩ ++ x0) ++ ⟨#[46]⟩) ++ (Utf8.encode (IntKind.wrap .i32 (IntKind.wrap .i64 (48 + part0)))))) h_0
theorem F46_eq : (fun (id0 : Int) (part0 : Int) (h : Heap) (Q : Value → Heap → Prop) => fnPT Tryz.prog Tryz.f46 (fun _ => annNil) (fun _ => []) (fun _ => none) [.int .i64 id0, .int .i64 part0] h Q) = F46 := by kernel_rfl
theorem F46_ok {id0 : Int} {part0 : Int} {h : Heap} {Q : Value → Heap → Prop} (H : F46 id0 part0 h Q) : CallsH Tryz.prog 46 [.int .i64 id0, .int .i64 part0] h Q :=
 callsH_of (ann := fun _ => annNil) (tys := fun _ => []) (pl := fun _ => none) Tryz.func46 (by kernel_rfl) (by have e := F46_eq; exact (congrFun (congrFun (congrFun (congrFun (e) id0) part0) h) Q).symm ▸ H)

/-- (*headgate/metalog.Log).Put -/
def F47 (l_0 : Option Addr) (id0 : Int) (b0a : Option Addr) (b0l : Nat) (b0c : Nat) (h : Heap) (Q : Value → Heap → Prop) : Prop :=
 (bif (l_0).isNone then
  Q (.int .i64 1) h
 else
  (bif decide ((id0 : Int) < 0) then
   Q (.int .i64 2) h
  else
   (bif decide ((id0 : Int) > 1099511627776) then
    Q (.int .i64 2) h
   else
    CallsH Tryz.prog 107 [.pointer l_0, .int .i64 id0] h fun r0 h_0 =>
    ∃ (x0a : Option Addr), ∃ (x0l : Nat), ∃ (x0c : Nat), ∃ (x1 : Bool), r0 = .tuple #[.slice x0a x0l x0c, .bool x1] ∧
    (bif x1 then
     CallsH Tryz.prog 141 [.slice x0a x0l x0c, .slice b0a b0l b0c] h_0 fun r1 h_1 =>
     DB r1 fun x2 =>
     (bif !x2 then
      Q (.int .i64 90) h_1
     else
      Q (.int .i64 0) h_1)
    else
     NN' l_0 fun a0 =>
     Ld h_0 (a0.add 0) fun v0 => DP v0 fun x3 =>
     NN' l_0 fun a1 =>
     Ld h_0 (a1.add 1) fun v1 => DS v1 fun x4 =>
     CallsH Tryz.prog 35 [.int .i64 id0] h_0 fun r2 h_2 =>
     DS r2 fun x5 =>
     (SameV (some (.pointer l_0)) (.pointer l_0)) ∧
     (NN' l_0 fun a2 =>
     SameV (some (.pointer (some a0))) (.pointer (some a2))) ∧
     (SameV (some (.pointer (some (a0.add 0)))) (.pointer (some (a0.add 0)))) ∧
     (Ld h_2 (a0.add 0) fun v2 => DP v2 fun x6 =>
     SameV (some (.pointer x3)) (.pointer x6)) ∧
     (SameV (some (.pointer l_0)) (.pointer l_0)) ∧
     (NN' l_0 fun a3 =>
     SameV (some (.pointer (some a1))) (.pointer (some a3))) ∧
     (SameV (some (.pointer (some (a1.add 1)))) (.pointer (some (a1.add 1)))) ∧
     (Ld h_2 (a1.add 1) fun v3 => DS v3 fun x7 =>
     SameV (some (.string x4)) (.string x7)) ∧
     (SameV (some (.slice b0a b0l b0c)) (.slice b0a b0l b0c)) ∧
     (⟨#[98, 46]⟩ : ByteArray).size + (x5 : ByteArray).size ≤ 9223372036854775807 ∧
     CallsH Tryz.prog 45 [.pointer x3, .string x4, .string (⟨#[98, 46]⟩ ++ x5), .slice b0a b0l b0c] h_2 fun r3 h_3 =>
     DI .i64 r3 fun e0 =>
     (bif (e0 : Int) != 0 then
      Q (.int .i64 e0) h_3
     else
      NN' l_0 fun a4 =>
      Ld h_3 (a4.add 2) fun v4 => DM v4 fun x8 =>
      CallsH Tryz.prog 108 [.slice b0a b0l b0c] h_3 fun r4 h_4 =>
      DSl r4 fun x9a x9l x9c =>
      (SameV (some (.pointer l_0)) (.pointer l_0)) ∧
      (NN' l_0 fun a5 =>
      SameV (some (.pointer (some a4))) (.pointer (some a5))) ∧
      (SameV (some (.pointer (some (a4.add 2)))) (.pointer (some (a4.add 2)))) ∧
      (Ld h_4 (a4.add 2) fun v5 => DM v5 fun x10 =>
      SameV (some (.map x8)) (.map x10)) ∧
      (SameV (some (.int .i64 id0)) (.int .i64 id0)) ∧
      RunU Tryz.prog (Instr.mapUpdate 214 (.map x8) (.int .i64 id0) (.slice x9a x9l x9c)) h_4 fun h_5 =>
      Q (.int .i64 0) h_5)))))
theorem F47_eq : (fun (l_0 : Option Addr) (id0 : Int) (b0a : Option Addr) (b0l : Nat) (b0c : Nat) (h : Heap) (Q : Value → Heap → Prop) => fnPT Tryz.prog Tryz.f47 (fun _ => annNil) (fun _ => []) (fun i => bif Nat.beq i 10 then some ⟨[0, 1, 3, 7, 0, 16, 48, 112, 0, 256, 768, 0, 4095, 8191], 4608⟩ else bif Nat.beq i 13 then some ⟨[0, 1, 3, 7, 0, 0, 32, 127], 192⟩ else none) [.pointer l_0, .int .i64 id0, .slice b0a b0l b0c] h Q) = F47 := by kernel_rfl
theorem F47_ok {l_0 : Option Addr} {id0 : Int} {b0a : Option Addr} {b0l : Nat} {b0c : Nat} {h : Heap} {Q : Value → Heap → Prop} (H : F47 l_0 id0 b0a b0l b0c h Q) : CallsH Tryz.prog 47 [.pointer l_0, .int .i64 id0, .slice b0a b0l b0c] h Q :=
 callsH_of (ann := fun _ => annNil) (tys := fun _ => []) (pl := fun i => bif Nat.beq i 10 then some ⟨[0, 1, 3, 7, 0, 16, 48, 112, 0, 256, 768, 0, 4095, 8191], 4608⟩ else bif Nat.beq i 13 then some ⟨[0, 1, 3, 7, 0, 0, 32, 127], 192⟩ else none) Tryz.func47 (by kernel_rfl) (by have e := F47_eq; exact (congrFun (congrFun (congrFun (congrFun (congrFun (congrFun (congrFun (e) l_0) id0) b0a) b0l) b0c) h) Q).symm ▸ H)

/-- (*headgate/metalog.Log).Fold -/
def F48 (l_0 : Option Addr) (upto0 : Int) (h : Heap) (Q : Value → Heap → Prop) : Prop :=
 (bif (l_0).isNone then
  Q (.int .i64 1) h
 else
  CallsH Tryz.prog 129 [.pointer l_0] h fun r0 h_0 =>
  DI .i64 r0 fun x0 =>
  Al h_0 (.cells #[.int .i64 0] 2) fun b0 h_1 =>
  StC h_1 ((Addr.mk b0 0 none).add 0) (.int .i64 (if (x0 : Int) > upto0 then x0 else upto0)) fun h_3 =>
  Al h_3 (.cells #[.int .i64 0] 2) fun b1 h_4 =>
  StC h_4 ((Addr.mk b1 0 none).add 0) (.int .i64 (-1)) fun h_6 =>
  Al h_6 (.cells #[.slice none 0 0] 91) fun b2 h_7 =>
  CallsH Tryz.prog 124 [.pointer l_0] h_7 fun r6 h_8 =>
  DM r6 fun x1 =>
  CallsH Tryz.prog 126 [.map x1] h_8 fun r7 h_9 =>
  ∃ (x2 : Value), r7 = x2 ∧
  RangeFn Tryz.prog x2 2 none h_9 (fun l_1 rec_0 args0 h_10 Q_0 =>
   ∃ (y0 : Int), ∃ (y1a : Option Addr), ∃ (y1l : Nat), ∃ (y1c : Nat), args0 = [.int .i64 y0, .slice y1a y1l y1c] ∧
   h_10[l_1]? = some (rec_0 .ready none) ∧
   Ld (h_10.setIfInBounds l_1 (rec_0 .busy none)) (Addr.mk b0 0 none) fun v0 => DI .i64 v0 fun x3 =>
   (bif decide ((y0 : Int) > x3) then
    (h_10.setIfInBounds l_1 (rec_0 .busy none))[l_1]? = some (rec_0 .busy none) ∧ Q_0 (.bool false) ((h_10.setIfInBounds l_1 (rec_0 .busy none)).setIfInBounds l_1 (rec_0 .done (some (.exit 0))))
   else
    StC (h_10.setIfInBounds l_1 (rec_0 .busy none)) ((Addr.mk b1 0 none).add 0) (.int .i64 y0) fun h_12 =>
    Ld h_12 (Addr.mk b2 0 none) fun v1 => DSl v1 fun x4a x4l x4c =>
    ∃ bs0 : ByteArray, BytesIn h_12 y1a y1l bs0 ∧
    CallsH Tryz.prog 35 [.int .i64 y0] h_12 fun r9 h_13 =>
    DS r9 fun x5 =>
    (Ld h_13 (Addr.mk b2 0 none) fun v2 => DSl v2 fun x6a x6l x6c =>
    SameV (some (.slice x4a x4l x4c)) (.slice x6a x6l x6c)) ∧
    (SameV (some (.slice y1a y1l y1c)) (.slice y1a y1l y1c)) ∧
    (∃ bs1 : ByteArray, BytesIn h_13 y1a y1l bs1 ∧
    SameV (some (.string bs0)) (.string bs1)) ∧
    Al h_13 (.cells #[.string x5, .string bs0] 96) fun b3 h_14 =>
    (Ld h_14 (Addr.mk b2 0 none) fun v3 => DSl v3 fun x7a x7l x7c =>
    SameV (some (.slice x4a x4l x4c)) (.slice x7a x7l x7c)) ∧
    RunH Tryz.prog (Builtin.append_ #[91, 91] 91 #[.slice x4a x4l x4c, .slice (some (Addr.mk b3 0 none)) 1 1]) h_14 fun r11 h_15 =>
    DSl r11 fun x8a x8l x8c =>
    StC h_15 ((Addr.mk b2 0 none).add 0) (.slice x8a x8l x8c) fun h_17 =>
    h_17[l_1]? = some (rec_0 .busy none) ∧ Q_0 (.bool true) (h_17.setIfInBounds l_1 (rec_0 .ready none)))) (fun pend0 h_18 =>
   (pend0 = none ∨ pend0 = some (.exit 0)) ∧
   (pend0 = none →
    Ld h_18 (Addr.mk b1 0 none) fun v4 => DI .i64 v4 fun x9 =>
    (bif decide ((x9 : Int) < 0) then
     h_18[h_9.size]? = some (.deferred (some [])) ∧
     Q (.int .i64 91) (h_18.setIfInBounds h_9.size (.deferred none))
    else
     Ld h_18 (Addr.mk b1 0 none) fun v5 => DI .i64 v5 fun x10 =>
     CallsH Tryz.prog 129 [.pointer l_0] h_18 fun r13 h_19 =>
     DI .i64 r13 fun x11 =>
     (Ld h_19 (Addr.mk b1 0 none) fun v6 => DI .i64 v6 fun x12 =>
     SameV (some (.int .i64 x10)) (.int .i64 x12)) ∧
     (bif (x11 : Int) == x10 then
      NN' l_0 fun a0 =>
      Ld h_19 (a0.add 3) fun v7 => DM v7 fun x13 =>
      ∃ es0, mapEs h_19 x13 es0 ∧
      NN' l_0 fun a1 =>
      Ld h_19 (a1.add 2) fun v8 => DM v8 fun x14 =>
      RunH Tryz.prog (Instr.range 214 (.map x14)) h_19 fun r14 h_20 =>
      DP r14 fun p0 =>
      LoopH (fun again0 (s0 : Bool) h_21 =>
       RunH Tryz.prog (Instr.next (.pointer p0) false 0) h_21 fun r15 h_22 =>
       (
        r15 = .tuple #[.bool false] ∧
        (bif s0 then
         h_22[h_9.size]? = some (.deferred (some [])) ∧
         Q (.int .i64 0) (h_22.setIfInBounds h_9.size (.deferred none))
        else
         Ld h_22 (Addr.mk b2 0 none) fun v9 => DSl v9 fun x16a x16l x16c =>
         CallsH Tryz.prog 44 [.slice x16a x16l x16c] h_22 fun r16 h_23 =>
         ∃ (x17a : Option Addr), ∃ (x17l : Nat), ∃ (x17c : Nat), ∃ (x18 : Int), r16 = .tuple #[.slice x17a x17l x17c, .int .i64 x18] ∧
         (bif (x18 : Int) != 0 then
          h_23[h_9.size]? = some (.deferred (some [])) ∧
          Q (.int .i64 x18) (h_23.setIfInBounds h_9.size (.deferred none))
         else
          NN' l_0 fun a2 =>
          Ld h_23 (a2.add 0) fun v10 => DP v10 fun x19 =>
          NN' l_0 fun a3 =>
          Ld h_23 (a3.add 1) fun v11 => DS v11 fun x20 =>
          Ld h_23 (Addr.mk b1 0 none) fun v12 => DI .i64 v12 fun x21 =>
          CallsH Tryz.prog 35 [.int .i64 x21] h_23 fun r17 h_24 =>
          DS r17 fun x22 =>
          (SameV (some (.pointer l_0)) (.pointer l_0)) ∧
          (NN' l_0 fun a4 =>
          SameV (some (.pointer (some a2))) (.pointer (some a4))) ∧
          (SameV (some (.pointer (some (a2.add 0)))) (.pointer (some (a2.add 0)))) ∧
          (Ld h_24 (a2.add 0) fun v13 => DP v13 fun x23 =>
          SameV (some (.pointer x19)) (.pointer x23)) ∧
          (SameV (some (.pointer l_0)) (.pointer l_0)) ∧
          (NN' l_0 fun a5 =>
          SameV (some (.pointer (some a3))) (.pointer (some a5))) ∧
          (SameV (some (.pointer (some (a3.add 1)))) (.pointer (some (a3.add 1)))) ∧
          (Ld h_24 (a3.add 1) fun v14 => DS v14 fun x24 =>
          SameV (some (.string x20)) (.string x24)) ∧
          (SameV (some (.slice x17a x17l x17c)) (.slice x17a x17l x17c)) ∧
          (⟨#[102, 46]⟩ : ByteArray).size + (x22 : ByteArray).size ≤ 9223372036854775807 ∧
          CallsH Tryz.prog 45 [.pointer x19, .string x20, .string (⟨#[102, 46]⟩ ++ x22), .slice x17a x17l x17c] h_24 fun r18 h_25 =>
          DI .i64 r18 fun e0 =>
          (bif (e0 : Int) != 0 then
           h_25[h_9.size]? = some (.deferred (some [])) ∧
           Q (.int .i64 e0) (h_25.setIfInBounds h_9.size (.deferred none))
          else
           Al h_25 (.map #[] 0) fun b4 h_26 =>
           CallsH Tryz.prog 124 [.pointer l_0] h_26 fun r20 h_27 =>
           DM r20 fun x25 =>
           RunH Tryz.prog (Instr.range 214 (.map x25)) h_27 fun r21 h_28 =>
           DP r21 fun p1 =>
           LoopH (fun again1 (s1 : Unit) h_29 =>
            RunH Tryz.prog (Instr.next (.pointer p1) false 0) h_29 fun r22 h_30 =>
            (
             r22 = .tuple #[.bool false] ∧
             NN' l_0 fun a6 =>
             Ld h_30 (a6.add 3) fun v15 => DM v15 fun x27 =>
             Ld h_30 (Addr.mk b1 0 none) fun v16 => DI .i64 v16 fun x28 =>
             RunH Tryz.prog (Instr.mapEntry 219 (.map x27) (.int .i64 x28)) h_30 fun r23 h_31 =>
             ∃ (x29 : Value), ∃ (x30 : Int), r23 = .tuple #[x29, .int .i64 x30] ∧
             (SameV (some (.pointer l_0)) (.pointer l_0)) ∧
             (SameV (some (.map (some b4))) (.map (some b4))) ∧
             RunU Tryz.prog (Instr.entryStore 219 (.map x27) (.int .i64 x30) (.bool true)) h_31 fun h_32 =>
             (SameV (some (.pointer l_0)) (.pointer l_0)) ∧
             (SameV (some (.map (some b4))) (.map (some b4))) ∧
             NN' l_0 fun a7 =>
             StC h_32 ((a7.add 4).add 0) (.map (some b4)) fun h_34 =>
             CallsH Tryz.prog 142 [.pointer l_0, .func (.func 143) #[] #[.pointer (some (Addr.mk b1 0 none))]] h_34 fun r26 h_35 =>
             DI .i64 r26 fun x31 =>
             h_35[h_9.size]? = some (.deferred (some [])) ∧
             Q (.int .i64 x31) (h_35.setIfInBounds h_9.size (.deferred none))) ∨ (
             ∃ (k1 x26 : Value), r22 = .tuple #[.bool true, k1, x26] ∧
             RunH Tryz.prog (Instr.entry (.pointer p1)) h_30 fun r27 h_36 =>
             ∃ (x32 : Int), ∃ (x33a : Option Addr), ∃ (x33l : Nat), ∃ (x33c : Nat), r27 = .tuple #[.int .i64 x32, .slice x33a x33l x33c] ∧
             Ld h_36 (Addr.mk b1 0 none) fun v17 => DI .i64 v17 fun x34 =>
             (bif decide ((x32 : Int) ≤ x34) then
              RunU Tryz.prog (Instr.mapUpdate 214 (.map (some b4)) (.int .i64 x32) (.slice x33a x33l x33c)) h_36 fun h_37 =>
              again1 () h_37
             else
              again1 () h_36))) () h_28)))) ∨ (
        ∃ (k0 x15 : Value), r15 = .tuple #[.bool true, k0, x15] ∧
        RunH Tryz.prog (Instr.entry (.pointer p0)) h_22 fun r29 h_38 =>
        ∃ (x35 : Int), ∃ (x36 : Value), r29 = .tuple #[.int .i64 x35, x36] ∧
        (bif s0 then
         Ld h_38 (Addr.mk b1 0 none) fun v18 => DI .i64 v18 fun x37 =>
         again0 (decide ((x35 : Int) > x37)) h_38
        else
         again0 false h_38))) ((((es0 : Array MapEntry).size : Int) : Int) == 1) h_20
     else
      NN' l_0 fun a8 =>
      Ld h_19 (a8.add 2) fun v19 => DM v19 fun x38 =>
      RunH Tryz.prog (Instr.range 214 (.map x38)) h_19 fun r30 h_39 =>
      DP r30 fun p2 =>
      LoopH (fun again2 (s2 : Bool) h_40 =>
       RunH Tryz.prog (Instr.next (.pointer p2) false 0) h_40 fun r31 h_41 =>
       (
        r31 = .tuple #[.bool false] ∧
        (bif s2 then
         h_41[h_9.size]? = some (.deferred (some [])) ∧
         Q (.int .i64 0) (h_41.setIfInBounds h_9.size (.deferred none))
        else
         Ld h_41 (Addr.mk b2 0 none) fun v20 => DSl v20 fun x40a x40l x40c =>
         CallsH Tryz.prog 44 [.slice x40a x40l x40c] h_41 fun r32 h_42 =>
         ∃ (x41a : Option Addr), ∃ (x41l : Nat), ∃ (x41c : Nat), ∃ (x42 : Int), r32 = .tuple #[.slice x41a x41l x41c, .int .i64 x42] ∧
         (bif (x42 : Int) != 0 then
          h_42[h_9.size]? = some (.deferred (some [])) ∧
          Q (.int .i64 x42) (h_42.setIfInBounds h_9.size (.deferred none))
         else
          NN' l_0 fun a9 =>
          Ld h_42 (a9.add 0) fun v21 => DP v21 fun x43 =>
          NN' l_0 fun a10 =>
          Ld h_42 (a10.add 1) fun v22 => DS v22 fun x44 =>
          Ld h_42 (Addr.mk b1 0 none) fun v23 => DI .i64 v23 fun x45 =>
          CallsH Tryz.prog 35 [.int .i64 x45] h_42 fun r33 h_43 =>
          DS r33 fun x46 =>
          (SameV (some (.pointer l_0)) (.pointer l_0)) ∧
          (NN' l_0 fun a11 =>
          SameV (some (.pointer (some a9))) (.pointer (some a11))) ∧
          (SameV (some (.pointer (some (a9.add 0)))) (.pointer (some (a9.add 0)))) ∧
          (Ld h_43 (a9.add 0) fun v24 => DP v24 fun x47 =>
          SameV (some (.pointer x43)) (.pointer x47)) ∧
          (SameV (some (.pointer l_0)) (.pointer l_0)) ∧
          (NN' l_0 fun a12 =>
          SameV (some (.pointer (some a10))) (.pointer (some a12))) ∧
          (SameV (some (.pointer (some (a10.add 1)))) (.pointer (some (a10.add 1)))) ∧
          (Ld h_43 (a10.add 1) fun v25 => DS v25 fun x48 =>
          SameV (some (.string x44)) (.string x48)) ∧
          (SameV (some (.slice x41a x41l x41c)) (.slice x41a x41l x41c)) ∧
          (⟨#[102, 46]⟩ : ByteArray).size + (x46 : ByteArray).size ≤ 9223372036854775807 ∧
          CallsH Tryz.prog 45 [.pointer x43, .string x44, .string (⟨#[102, 46]⟩ ++ x46), .slice x41a x41l x41c] h_43 fun r34 h_44 =>
          DI .i64 r34 fun e1 =>
          (bif (e1 : Int) != 0 then
           h_44[h_9.size]? = some (.deferred (some [])) ∧
           Q (.int .i64 e1) (h_44.setIfInBounds h_9.size (.deferred none))
          else
           Al h_44 (.map #[] 0) fun b5 h_45 =>
           CallsH Tryz.prog 124 [.pointer l_0] h_45 fun r36 h_46 =>
           DM r36 fun x49 =>
           RunH Tryz.prog (Instr.range 214 (.map x49)) h_46 fun r37 h_47 =>
           DP r37 fun p3 =>
           LoopH (fun again3 (s3 : Unit) h_48 =>
            RunH Tryz.prog (Instr.next (.pointer p3) false 0) h_48 fun r38 h_49 =>
            (
             r38 = .tuple #[.bool false] ∧
             NN' l_0 fun a13 =>
             Ld h_49 (a13.add 3) fun v26 => DM v26 fun x51 =>
             Ld h_49 (Addr.mk b1 0 none) fun v27 => DI .i64 v27 fun x52 =>
             RunH Tryz.prog (Instr.mapEntry 219 (.map x51) (.int .i64 x52)) h_49 fun r39 h_50 =>
             ∃ (x53 : Value), ∃ (x54 : Int), r39 = .tuple #[x53, .int .i64 x54] ∧
             (SameV (some (.pointer l_0)) (.pointer l_0)) ∧
             (SameV (some (.map (some b5))) (.map (some b5))) ∧
             RunU Tryz.prog (Instr.entryStore 219 (.map x51) (.int .i64 x54) (.bool true)) h_50 fun h_51 =>
             (SameV (some (.pointer l_0)) (.pointer l_0)) ∧
             (SameV (some (.map (some b5))) (.map (some b5))) ∧
             NN' l_0 fun a14 =>
             StC h_51 ((a14.add 4).add 0) (.map (some b5)) fun h_53 =>
             CallsH Tryz.prog 142 [.pointer l_0, .func (.func 143) #[] #[.pointer (some (Addr.mk b1 0 none))]] h_53 fun r42 h_54 =>
             DI .i64 r42 fun x55 =>
             h_54[h_9.size]? = some (.deferred (some [])) ∧
             Q (.int .i64 x55) (h_54.setIfInBounds h_9.size (.deferred none))) ∨ (
             ∃ (k3 x50 : Value), r38 = .tuple #[.bool true, k3, x50] ∧
             RunH Tryz.prog (Instr.entry (.pointer p3)) h_49 fun r43 h_55 =>
             ∃ (x56 : Int), ∃ (x57a : Option Addr), ∃ (x57l : Nat), ∃ (x57c : Nat), r43 = .tuple #[.int .i64 x56, .slice x57a x57l x57c] ∧
             Ld h_55 (Addr.mk b1 0 none) fun v28 => DI .i64 v28 fun x58 =>
             (bif decide ((x56 : Int) ≤ x58) then
              RunU Tryz.prog (Instr.mapUpdate 214 (.map (some b5)) (.int .i64 x56) (.slice x57a x57l x57c)) h_55 fun h_56 =>
              again3 () h_56
             else
              again3 () h_55))) () h_47)))) ∨ (
        ∃ (k2 x39 : Value), r31 = .tuple #[.bool true, k2, x39] ∧
        RunH Tryz.prog (Instr.entry (.pointer p2)) h_41 fun r45 h_57 =>
        ∃ (x59 : Int), ∃ (x60 : Value), r45 = .tuple #[.int .i64 x59, x60] ∧
        (bif s2 then
         Ld h_57 (Addr.mk b1 0 none) fun v29 => DI .i64 v29 fun x61 =>
         again2 (decide ((x59 : Int) > x61)) h_57
        else
         again2 false h_57))) false h_39))) ∧
   (pend0 = some (.exit 0) →
    Ld h_18 (Addr.mk b1 0 none) fun v30 => DI .i64 v30 fun x62 =>
    (bif decide ((x62 : Int) < 0) then
     h_18[h_9.size]? = some (.deferred (some [])) ∧
     Q (.int .i64 91) (h_18.setIfInBounds h_9.size (.deferred none))
    else
     Ld h_18 (Addr.mk b1 0 none) fun v31 => DI .i64 v31 fun x63 =>
     CallsH Tryz.prog 129 [.pointer l_0] h_18 fun r46 h_58 =>
     DI .i64 r46 fun x64 =>
     (Ld h_58 (Addr.mk b1 0 none) fun v32 => DI .i64 v32 fun x65 =>
     SameV (some (.int .i64 x63)) (.int .i64 x65)) ∧
     (bif (x64 : Int) == x63 then
      NN' l_0 fun a15 =>
      Ld h_58 (a15.add 3) fun v33 => DM v33 fun x66 =>
      ∃ es1, mapEs h_58 x66 es1 ∧
      NN' l_0 fun a16 =>
      Ld h_58 (a16.add 2) fun v34 => DM v34 fun x67 =>
      RunH Tryz.prog (Instr.range 214 (.map x67)) h_58 fun r47 h_59 =>
      DP r47 fun p4 =>
      LoopH (fun again4 (s4 : Bool) h_60 =>
       RunH Tryz.prog (Instr.next (.pointer p4) false 0) h_60 fun r48 h_61 =>
       (
        r48 = .tuple #[.bool false] ∧
        (bif s4 then
         h_61[h_9.size]? = some (.deferred (some [])) ∧
         Q (.int .i64 0) (h_61.setIfInBounds h_9.size (.deferred none))
        else
         Ld h_61 (Addr.mk b2 0 none) fun v35 => DSl v35 fun x69a x69l x69c =>
         CallsH Tryz.prog 44 [.slice x69a x69l x69c] h_61 fun r49 h_62 =>
         ∃ (x70a : Option Addr), ∃ (x70l : Nat), ∃ (x70c : Nat), ∃ (x71 : Int), r49 = .tuple #[.slice x70a x70l x70c, .int .i64 x71] ∧
         (bif (x71 : Int) != 0 then
          h_62[h_9.size]? = some (.deferred (some [])) ∧
          Q (.int .i64 x71) (h_62.setIfInBounds h_9.size (.deferred none))
         else
          NN' l_0 fun a17 =>
          Ld h_62 (a17.add 0) fun v36 => DP v36 fun x72 =>
          NN' l_0 fun a18 =>
          Ld h_62 (a18.add 1) fun v37 => DS v37 fun x73 =>
          Ld h_62 (Addr.mk b1 0 none) fun v38 => DI .i64 v38 fun x74 =>
          CallsH Tryz.prog 35 [.int .i64 x74] h_62 fun r50 h_63 =>
          DS r50 fun x75 =>
          (SameV (some (.pointer l_0)) (.pointer l_0)) ∧
          (NN' l_0 fun a19 =>
          SameV (some (.pointer (some a17))) (.pointer (some a19))) ∧
          (SameV (some (.pointer (some (a17.add 0)))) (.pointer (some (a17.add 0)))) ∧
          (Ld h_63 (a17.add 0) fun v39 => DP v39 fun x76 =>
          SameV (some (.pointer x72)) (.pointer x76)) ∧
          (SameV (some (.pointer l_0)) (.pointer l_0)) ∧
          (NN' l_0 fun a20 =>
          SameV (some (.pointer (some a18))) (.pointer (some a20))) ∧
          (SameV (some (.pointer (some (a18.add 1)))) (.pointer (some (a18.add 1)))) ∧
          (Ld h_63 (a18.add 1) fun v40 => DS v40 fun x77 =>
          SameV (some (.string x73)) (.string x77)) ∧
          (SameV (some (.slice x70a x70l x70c)) (.slice x70a x70l x70c)) ∧
          (⟨#[102, 46]⟩ : ByteArray).size + (x75 : ByteArray).size ≤ 9223372036854775807 ∧
          CallsH Tryz.prog 45 [.pointer x72, .string x73, .string (⟨#[102, 46]⟩ ++ x75), .slice x70a x70l x70c] h_63 fun r51 h_64 =>
          DI .i64 r51 fun e2 =>
          (bif (e2 : Int) != 0 then
           h_64[h_9.size]? = some (.deferred (some [])) ∧
           Q (.int .i64 e2) (h_64.setIfInBounds h_9.size (.deferred none))
          else
           Al h_64 (.map #[] 0) fun b6 h_65 =>
           CallsH Tryz.prog 124 [.pointer l_0] h_65 fun r53 h_66 =>
           DM r53 fun x78 =>
           RunH Tryz.prog (Instr.range 214 (.map x78)) h_66 fun r54 h_67 =>
           DP r54 fun p5 =>
           LoopH (fun again5 (s5 : Unit) h_68 =>
            RunH Tryz.prog (Instr.next (.pointer p5) false 0) h_68 fun r55 h_69 =>
            (
             r55 = .tuple #[.bool false] ∧
             NN' l_0 fun a21 =>
             Ld h_69 (a21.add 3) fun v41 => DM v41 fun x80 =>
             Ld h_69 (Addr.mk b1 0 none) fun v42 => DI .i64 v42 fun x81 =>
             RunH Tryz.prog (Instr.mapEntry 219 (.map x80) (.int .i64 x81)) h_69 fun r56 h_70 =>
             ∃ (x82 : Value), ∃ (x83 : Int), r56 = .tuple #[x82, .int .i64 x83] ∧
             (SameV (some (.pointer l_0)) (.pointer l_0)) ∧
             (SameV (some (.map (some b6))) (.map (some b6))) ∧
             RunU Tryz.prog (Instr.entryStore 219 (.map x80) (.int .i64 x83) (.bool true)) h_70 fun h_71 =>
             (SameV (some (.pointer l_0)) (.pointer l_0)) ∧
             (SameV (some (.map (some b6))) (.map (some b6))) ∧
             NN' l_0 fun a22 =>
             StC h_71 ((a22.add 4).add 0) (.map (some b6)) fun h_73 =>
             CallsH Tryz.prog 142 [.pointer l_0, .func (.func 143) #[] #[.pointer (some (Addr.mk b1 0 none))]] h_73 fun r59 h_74 =>
             DI .i64 r59 fun x84 =>
             h_74[h_9.size]? = some (.deferred (some [])) ∧
             Q (.int .i64 x84) (h_74.setIfInBounds h_9.size (.deferred none))) ∨ (
             ∃ (k5 x79 : Value), r55 = .tuple #[.bool true, k5, x79] ∧
             RunH Tryz.prog (Instr.entry (.pointer p5)) h_69 fun r60 h_75 =>
             ∃ (x85 : Int), ∃ (x86a : Option Addr), ∃ (x86l : Nat), ∃ (x86c : Nat), r60 = .tuple #[.int .i64 x85, .slice x86a x86l x86c] ∧
             Ld h_75 (Addr.mk b1 0 none) fun v43 => DI .i64 v43 fun x87 =>
             (bif decide ((x85 : Int) ≤ x87) then
              RunU Tryz.prog (Instr.mapUpdate 214 (.map (some b6)) (.int .i64 x85) (.slice x86a x86l x86c)) h_75 fun h_76 =>
              again5 () h_76
             else
              again5 () h_75))) () h_67)))) ∨ (
        ∃ (k4 x68 : Value), r48 = .tuple #[.bool true, k4, x68] ∧
        RunH Tryz.prog (Instr.entry (.pointer p4)) h_61 fun r62 h_77 =>
        ∃ (x88 : Int), ∃ (x89 : Value), r62 = .tuple #[.int .i64 x88, x89] ∧
        (bif s4 then
         Ld h_77 (Addr.mk b1 0 none) fun v44 => DI .i64 v44 fun x90 =>
         again4 (decide ((x88 : Int) > x90)) h_77
        else
         again4 false h_77))) ((((es1 : Array MapEntry).size : Int) : Int) == 1) h_59
     else
      NN' l_0 fun a23 =>
      Ld h_58 (a23.add 2) fun v45 => DM v45 fun x91 =>
      RunH Tryz.prog (Instr.range 214 (.map x91)) h_58 fun r63 h_78 =>
      DP r63 fun p6 =>
      LoopH (fun again6 (s6 : Bool) h_79 =>
       RunH Tryz.prog (Instr.next (.pointer p6) false 0) h_79 fun r64 h_80 =>
       (
        r64 = .tuple #[.bool false] ∧
        (bif s6 then
         h_80[h_9.size]? = some (.deferred (some [])) ∧
         Q (.int .i64 0) (h_80.setIfInBounds h_9.size (.deferred none))
        else
         Ld h_80 (Addr.mk b2 0 none) fun v46 => DSl v46 fun x93a x93l x93c =>
         CallsH Tryz.prog 44 [.slice x93a x93l x93c] h_80 fun r65 h_81 =>
         ∃ (x94a : Option Addr), ∃ (x94l : Nat), ∃ (x94c : Nat), ∃ (x95 : Int), r65 = .tuple #[.slice x94a x94l x94c, .int .i64 x95] ∧
         (bif (x95 : Int) != 0 then
          h_81[h_9.size]? = some (.deferred (some [])) ∧
          Q (.int .i64 x95) (h_81.setIfInBounds h_9.size (.deferred none))
         else
          NN' l_0 fun a24 =>
          Ld h_81 (a24.add 0) fun v47 => DP v47 fun x96 =>
          NN' l_0 fun a25 =>
          Ld h_81 (a25.add 1) fun v48 => DS v48 fun x97 =>
          Ld h_81 (Addr.mk b1 0 none) fun v49 => DI .i64 v49 fun x98 =>
          CallsH Tryz.prog 35 [.int .i64 x98] h_81 fun r66 h_82 =>
          DS r66 fun x99 =>
          (SameV (some (.pointer l_0)) (.pointer l_0)) ∧
          (NN' l_0 fun a26 =>
          SameV (some (.pointer (some a24))) (.pointer (some a26))) ∧
          (SameV (some (.pointer (some (a24.add 0)))) (.pointer (some (a24.add 0)))) ∧
          (Ld h_82 (a24.add 0) fun v50 => DP v50 fun x100 =>
          SameV (some (.pointer x96)) (.pointer x100)) ∧
          (SameV (some (.pointer l_0)) (.pointer l_0)) ∧
          (NN' l_0 fun a27 =>
          SameV (some (.pointer (some a25))) (.pointer (some a27))) ∧
          (SameV (some (.pointer (some (a25.add 1)))) (.pointer (some (a25.add 1)))) ∧
          (Ld h_82 (a25.add 1) fun v51 => DS v51 fun x101 =>
          SameV (some (.string x97)) (.string x101)) ∧
          (SameV (some (.slice x94a x94l x94c)) (.slice x94a x94l x94c)) ∧
          (⟨#[102, 46]⟩ : ByteArray).size + (x99 : ByteArray).size ≤ 9223372036854775807 ∧
          CallsH Tryz.prog 45 [.pointer x96, .string x97, .string (⟨#[102, 46]⟩ ++ x99), .slice x94a x94l x94c] h_82 fun r67 h_83 =>
          DI .i64 r67 fun e3 =>
          (bif (e3 : Int) != 0 then
           h_83[h_9.size]? = some (.deferred (some [])) ∧
           Q (.int .i64 e3) (h_83.setIfInBounds h_9.size (.deferred none))
          else
           Al h_83 (.map #[] 0) fun b7 h_84 =>
           CallsH Tryz.prog 124 [.pointer l_0] h_84 fun r69 h_85 =>
           DM r69 fun x102 =>
           RunH Tryz.prog (Instr.range 214 (.map x102)) h_85 fun r70 h_86 =>
           DP r70 fun p7 =>
           LoopH (fun again7 (s7 : Unit) h_87 =>
            RunH Tryz.prog (Instr.next (.pointer p7) false 0) h_87 fun r71 h_88 =>
            (
             r71 = .tuple #[.bool false] ∧
             NN' l_0 fun a28 =>
             Ld h_88 (a28.add 3) fun v52 => DM v52 fun x104 =>
             Ld h_88 (Addr.mk b1 0 none) fun v53 => DI .i64 v53 fun x105 =>
             RunH Tryz.prog (Instr.mapEntry 219 (.map x104) (.int .i64 x105)) h_88 fun r72 h_89 =>
             ∃ (x106 : Value), ∃ (x107 : Int), r72 = .tuple #[x106, .int .i64 x107] ∧
             (SameV (some (.pointer l_0)) (.pointer l_0)) ∧
             (SameV (some (.map (some b7))) (.map (some b7))) ∧
             RunU Tryz.prog (Instr.entryStore 219 (.map x104) (.int .i64 x107) (.bool true)) h_89 fun h_90 =>
             (SameV (some (.pointer l_0)) (.pointer l_0)) ∧
             (SameV (some (.map (some b7))) (.map (some b7))) ∧
             NN' l_0 fun a29 =>
             StC h_90 ((a29.add 4).add 0) (.map (some b7)) fun h_92 =>
             CallsH Tryz.prog 142 [.pointer l_0, .func (.func 143) #[] #[.pointer (some (Addr.mk b1 0 none))]] h_92 fun r75 h_93 =>
             DI .i64 r75 fun x108 =>
             h_93[h_9.size]? = some (.deferred (some [])) ∧
             Q (.int .i64 x108) (h_93.setIfInBounds h_9.size (.deferred none))) ∨ (
             ∃ (k7 x103 : Value), r71 = .tuple #[.bool true, k7, x103] ∧
             RunH Tryz.prog (Instr.entry (.pointer p7)) h_88 fun r76 h_94 =>
             ∃ (x109 : Int), ∃ (x110a : Option Addr), ∃ (x110l : Nat), ∃ (x110c : Nat), r76 = .tuple #[.int .i64 x109, .slice x110a x110l x110c] ∧
             Ld h_94 (Addr.mk b1 0 none) fun v54 => DI .i64 v54 fun x111 =>
             (bif decide ((x109 : Int) ≤ x111) then
              RunU Tryz.prog (Instr.mapUpdate 214 (.map (some b7)) (.int .i64 x109) (.slice x110a x110l x110c)) h_94 fun h_95 =>
              again7 () h_95
             else
              again7 () h_94))) () h_86)))) ∨ (
        ∃ (k6 x92 : Value), r64 = .tuple #[.bool true, k6, x92] ∧
        RunH Tryz.prog (Instr.entry (.pointer p6)) h_80 fun r78 h_96 =>
        ∃ (x112 : Int), ∃ (x113 : Value), r78 = .tuple #[.int .i64 x112, x113] ∧
        (bif s6 then
         Ld h_96 (Addr.mk b1 0 none) fun v55 => DI .i64 v55 fun x114 =>
         again6 (decide ((x112 : Int) > x114)) h_96
        else
         again6 false h_96))) false h_78)))))
theorem F48_eq : (fun (l_0 : Option Addr) (upto0 : Int) (h : Heap) (Q : Value → Heap → Prop) => fnPT Tryz.prog Tryz.f48 (fun i => bif Nat.beq i 2 then annOne 10 (codB) else bif Nat.beq i 4 then annNil else annNil) (fun i => bif Nat.beq i 0 then [2, 85] else bif Nat.beq i 1033 then [0, 3] else bif Nat.beq i 1030 then [2, 85] else bif Nat.beq i 1017 then [2, 0] else []) (fun i => bif Nat.beq i 11 then some ⟨[0, 0, 2, 0, 8, 30, 62, 127, 255], 452⟩ else bif Nat.beq i 14 then some ⟨[0, 1, 0, 7, 15, 31, 63, 127, 255, 511, 1023, 2047, 4095], 2⟩ else bif Nat.beq i 24 then some ⟨[0, 1, 3, 7, 0, 16, 48, 112, 0, 256, 768, 0, 4095, 8191], 4608⟩ else bif Nat.beq i 33 then some ⟨[0, 1, 3, 7, 0, 0, 0, 31, 159, 415, 1023, 2047, 4095], 4736⟩ else none) [.pointer l_0, .int .i64 upto0] h Q) = F48 := by kernel_rfl
theorem F48_ok {l_0 : Option Addr} {upto0 : Int} {h : Heap} {Q : Value → Heap → Prop} (H : F48 l_0 upto0 h Q) : CallsH Tryz.prog 48 [.pointer l_0, .int .i64 upto0] h Q :=
 callsH_of (ann := fun i => bif Nat.beq i 2 then annOne 10 (codB) else bif Nat.beq i 4 then annNil else annNil) (tys := fun i => bif Nat.beq i 0 then [2, 85] else bif Nat.beq i 1033 then [0, 3] else bif Nat.beq i 1030 then [2, 85] else bif Nat.beq i 1017 then [2, 0] else []) (pl := fun i => bif Nat.beq i 11 then some ⟨[0, 0, 2, 0, 8, 30, 62, 127, 255], 452⟩ else bif Nat.beq i 14 then some ⟨[0, 1, 0, 7, 15, 31, 63, 127, 255, 511, 1023, 2047, 4095], 2⟩ else bif Nat.beq i 24 then some ⟨[0, 1, 3, 7, 0, 16, 48, 112, 0, 256, 768, 0, 4095, 8191], 4608⟩ else bif Nat.beq i 33 then some ⟨[0, 1, 3, 7, 0, 0, 0, 31, 159, 415, 1023, 2047, 4095], 4736⟩ else none) Tryz.func48 (by kernel_rfl) (by have e := F48_eq; exact (congrFun (congrFun (congrFun (congrFun (e) l_0) upto0) h) Q).symm ▸ H)

/-- headgate/headgateref03.Big -/
def F49 (l_0a : Option Addr) (l_0l : Nat) (l_0c : Nat) (h : Heap) (Q : Value → Heap → Prop) : Prop :=
 (bif decide (((l_0l : Int) : Int) > 40) then
  Q (.bool true) h
 else
  LoopH (fun again0 (s0 : Int) h_0 =>
   (bif decide ((s0 : Int) < (l_0l : Int)) then
    IdxA l_0a l_0l s0 3 fun a0 =>
    Ld h_0 (a0.add 2) fun v0 => DS v0 fun x0 =>
    (bif decide ((((x0 : ByteArray).size : Int) : Int) > 600) then
     Q (.bool true) h_0
    else
     again0 (IntKind.wrap .i64 (s0 + 1)) h_0)
   else
    Q (.bool false) h_0)) 0 h)
theorem F49_eq : (fun (l_0a : Option Addr) (l_0l : Nat) (l_0c : Nat) (h : Heap) (Q : Value → Heap → Prop) => fnPT Tryz.prog Tryz.f49 (fun i => bif Nat.beq i 0 then annOne 3 (codI .i64) else annNil) (fun _ => []) (fun _ => none) [.slice l_0a l_0l l_0c] h Q) = F49 := by kernel_rfl
theorem F49_ok {l_0a : Option Addr} {l_0l : Nat} {l_0c : Nat} {h : Heap} {Q : Value → Heap → Prop} (H : F49 l_0a l_0l l_0c h Q) : CallsH Tryz.prog 49 [.slice l_0a l_0l l_0c] h Q :=
 callsH_of (ann := fun i => bif Nat.beq i 0 then annOne 3 (codI .i64) else annNil) (tys := fun _ => []) (pl := fun _ => none) Tryz.func49 (by kernel_rfl) (by have e := F49_eq; exact (congrFun (congrFun (congrFun (congrFun (congrFun (e) l_0a) l_0l) l_0c) h) Q).symm ▸ H)

/-- headgate/headgateref03.Same -/
def F53 (a0a : Option Addr) (a0l : Nat) (a0c : Nat) (b0a : Option Addr) (b0l : Nat) (b0c : Nat) (h : Heap) (Q : Value → Heap → Prop) : Prop :=
 (bif ((a0l : Int) : Int) == (b0l : Int) then
  CallsH Tryz.prog 148 [.slice a0a a0l a0c, .slice b0a b0l b0c] h fun r0 h_0 =>
  DI .i64 r0 fun x0 =>
  Q (.bool ((x0 : Int) == 0)) h_0
 else
  Q (.bool false) h)
theorem F53_eq : (fun (a0a : Option Addr) (a0l : Nat) (a0c : Nat) (b0a : Option Addr) (b0l : Nat) (b0c : Nat) (h : Heap) (Q : Value → Heap → Prop) => fnPT Tryz.prog Tryz.f53 (fun _ => annNil) (fun _ => []) (fun _ => none) [.slice a0a a0l a0c, .slice b0a b0l b0c] h Q) = F53 := by kernel_rfl
theorem F53_ok {a0a : Option Addr} {a0l : Nat} {a0c : Nat} {b0a : Option Addr} {b0l : Nat} {b0c : Nat} {h : Heap} {Q : Value → Heap → Prop} (H : F53 a0a a0l a0c b0a b0l b0c h Q) : CallsH Tryz.prog 53 [.slice a0a a0l a0c, .slice b0a b0l b0c] h Q :=
 callsH_of (ann := fun _ => annNil) (tys := fun _ => []) (pl := fun _ => none) Tryz.func53 (by kernel_rfl) (by have e := F53_eq; exact (congrFun (congrFun (congrFun (congrFun (congrFun (congrFun (congrFun (congrFun (e) a0a) a0l) a0c) b0a) b0l) b0c) h) Q).symm ▸ H)

/-- (*headgate/metalog.Log).get -/
def F107 (l_0 : Option Addr) (id0 : Int) (h : Heap) (Q : Value → Heap → Prop) : Prop :=
 NN' l_0 fun a0 =>
 Ld h (a0.add 4) fun v0 => DM v0 fun x0 =>
 ∃ es0, mapEs h x0 es0 ∧ ∃ f0, Instr.findNow (.int .i64) (.int .i64 id0) (es0 : Array MapEntry).toList 0 = some f0 ∧
 DSl ((Option.map (fun x => x.2) f0).getD (.slice none 0 0)) fun x1a x1l x1c =>
 (bif Option.isSome f0 then
  Q (.tuple #[.slice x1a x1l x1c, .bool true]) h
 else
  NN' l_0 fun a1 =>
  Ld h (a1.add 2) fun v1 => DM v1 fun x2 =>
  ∃ es1, mapEs h x2 es1 ∧ ∃ f1, Instr.findNow (.int .i64) (.int .i64 id0) (es1 : Array MapEntry).toList 0 = some f1 ∧
  DSl ((Option.map (fun x => x.2) f1).getD (.slice none 0 0)) fun x3a x3l x3c =>
  Q (.tuple #[.slice x3a x3l x3c, .bool (Option.isSome f1)]) h)
theorem F107_eq : (fun (l_0 : Option Addr) (id0 : Int) (h : Heap) (Q : Value → Heap → Prop) => fnPT Tryz.prog Tryz.f107 (fun _ => annNil) (fun _ => []) (fun _ => none) [.pointer l_0, .int .i64 id0] h Q) = F107 := by kernel_rfl
theorem F107_ok {l_0 : Option Addr} {id0 : Int} {h : Heap} {Q : Value → Heap → Prop} (H : F107 l_0 id0 h Q) : CallsH Tryz.prog 107 [.pointer l_0, .int .i64 id0] h Q :=
 callsH_of (ann := fun _ => annNil) (tys := fun _ => []) (pl := fun _ => none) Tryz.func107 (by kernel_rfl) (by have e := F107_eq; exact (congrFun (congrFun (congrFun (congrFun (e) l_0) id0) h) Q).symm ▸ H)

/-- bytes.Clone -/
def F108 (b0a : Option Addr) (b0l : Nat) (b0c : Nat) (h : Heap) (Q : Value → Heap → Prop) : Prop :=
 (bif (b0a).isNone then
  Q (.slice none 0 0) h
 else
  Al h (.cells #[] 5) fun b1 h_0 =>
  RunH Tryz.prog (Builtin.append_ #[85, 85] 85 #[.slice (some (Addr.mk b1 0 none)) 0 0, .slice b0a b0l b0c]) h_0 fun r1 h_1 =>
  DSl r1 fun x0a x0l x0c =>
  Q (.slice x0a x0l x0c) h_1)
theorem F108_eq : (fun (b0a : Option Addr) (b0l : Nat) (b0c : Nat) (h : Heap) (Q : Value → Heap → Prop) => fnPT Tryz.prog Tryz.f108 (fun _ => annNil) (fun _ => []) (fun _ => none) [.slice b0a b0l b0c] h Q) = F108 := by kernel_rfl
theorem F108_ok {b0a : Option Addr} {b0l : Nat} {b0c : Nat} {h : Heap} {Q : Value → Heap → Prop} (H : F108 b0a b0l b0c h Q) : CallsH Tryz.prog 108 [.slice b0a b0l b0c] h Q :=
 callsH_of (ann := fun _ => annNil) (tys := fun _ => []) (pl := fun _ => none) Tryz.func108 (by kernel_rfl) (by have e := F108_eq; exact (congrFun (congrFun (congrFun (congrFun (congrFun (e) b0a) b0l) b0c) h) Q).symm ▸ H)

/-- headgate/code.read[headgate/api.Pair] -/
def F109 (b0a : Option Addr) (b0l : Nat) (b0c : Nat) (next0 : Value) (h : Heap) (Q : Value → Heap → Prop) : Prop :=
 Al h (.cells #[.slice none 0 0] 91) fun b1 h_0 =>
 Al h_0 (.cells #[.int .i64 0] 25) fun b2 h_1 =>
 Al h_1 (.cells #[.slice b0a b0l b0c] 281) fun b3 h_2 =>
 CallV Tryz.prog next0 [.pointer (some (Addr.mk b3 0 none))] h_2 fun r3 h_3 =>
 DSl r3 fun x0a x0l x0c =>
 StC h_3 ((Addr.mk b1 0 none).add 0) (.slice x0a x0l x0c) fun h_5 =>
 Ld h_5 ((Addr.mk b3 0 none).add 0) fun v0 => DSl v0 fun x1a x1l x1c =>
 (bif decide (((x1l : Int) : Int) > 0) then
  False
  
 else
  (bif decide (((b0l : Int) : Int) > 16777216) then
   False
   
  else
   Ld h_5 (Addr.mk b1 0 none) fun v1 => DSl v1 fun x2a x2l x2c =>
   StC h_5 ((Addr.mk b1 0 none).add 0) (.slice x2a x2l x2c) fun h_9 =>
   StC h_9 ((Addr.mk b2 0 none).add 0) (.int .i64 0) fun h_11 =>
   DeferH Tryz.prog 182 [.pointer (some (Addr.mk b1 0 none)), .pointer (some (Addr.mk b2 0 none))] h_11 fun h_12 =>
   Ld h_12 (Addr.mk b1 0 none) fun v2 => DSl v2 fun res0a res0l res0c =>
   Ld h_12 (Addr.mk b2 0 none) fun v3 => DI .i64 v3 fun res1 =>
   Q (.tuple #[.slice res0a res0l res0c, .int .i64 res1]) h_12))
theorem F109_eq : (fun (b0a : Option Addr) (b0l : Nat) (b0c : Nat) (next0 : Value) (h : Heap) (Q : Value → Heap → Prop) => fnPTd Tryz.prog Tryz.f109 (fun _ => annNil) (fun _ => []) (fun _ => none) [.slice b0a b0l b0c, next0] h Q) = F109 := by kernel_rfl
theorem F109_ok {b0a : Option Addr} {b0l : Nat} {b0c : Nat} {next0 : Value} {h : Heap} {Q : Value → Heap → Prop} (H : F109 b0a b0l b0c next0 h Q) : CallsH Tryz.prog 109 [.slice b0a b0l b0c, next0] h Q :=
 callsHd_of (ann := fun _ => annNil) (tys := fun _ => []) (pl := fun _ => none) Tryz.func109 (by kernel_rfl) (by have e := F109_eq; exact (congrFun (congrFun (congrFun (congrFun (congrFun (congrFun (e) b0a) b0l) b0c) next0) h) Q).symm ▸ H)

/-- headgate/code.Unpairs$1 -/
def F110 (r0 : Option Addr) (h : Heap) (Q : Value → Heap → Prop) : Prop :=
 Al h (.cells #[.pointer r0] 194) fun b0 h_0 =>
 Ld h_0 (Addr.mk b0 0 none) fun v0 => DP v0 fun x0 =>
 CallsH Tryz.prog 111 [.pointer x0, .func (.func 112) #[] #[.pointer (some (Addr.mk b0 0 none))]] h_0 fun r2 h_1 =>
 DSl r2 fun x1a x1l x1c =>
 Q (.slice x1a x1l x1c) h_1
theorem F110_eq : (fun (r0 : Option Addr) (h : Heap) (Q : Value → Heap → Prop) => fnPT Tryz.prog Tryz.f110 (fun _ => annNil) (fun _ => []) (fun _ => none) [.pointer r0] h Q) = F110 := by kernel_rfl
theorem F110_ok {r0 : Option Addr} {h : Heap} {Q : Value → Heap → Prop} (H : F110 r0 h Q) : CallsH Tryz.prog 110 [.pointer r0] h Q :=
 callsH_of (ann := fun _ => annNil) (tys := fun _ => []) (pl := fun _ => none) Tryz.func110 (by kernel_rfl) (by have e := F110_eq; exact (congrFun (congrFun (congrFun (e) r0) h) Q).symm ▸ H)

/-- headgate/code.items[headgate/api.Pair] -/
def F111 (r0 : Option Addr) (next0 : Value) (h : Heap) (Q : Value → Heap → Prop) : Prop :=
 CallsH Tryz.prog 183 [.pointer r0] h fun r1 h_0 =>
 DI .u64 r1 fun n0 =>
 NN' r0 fun a0 =>
 Ld h_0 (a0.add 0) fun v0 => DSl v0 fun x0a x0l x0c =>
 (bif decide ((n0 : Int) > (IntKind.wrap .u64 (x0l : Int))) then
  False
  
 else
  LoopH (fun again0 (s0 : Sl × Int) h_2 =>
   (bif decide ((s0.2 : Int) < n0) then
    CallV Tryz.prog next0 [] h_2 fun r3 h_3 =>
    ∃ (x1 : ByteArray), ∃ (x2 : ByteArray), r3 = .agg #[.string x1, .string x2] ∧
    Al h_3 (.cells #[.string x1, .string x2] 96) fun b0 h_4 =>
    RunH Tryz.prog (Builtin.append_ #[91, 91] 91 #[.slice s0.1.a s0.1.l s0.1.c, .slice (some (Addr.mk b0 0 none)) 1 1]) h_4 fun r5 h_5 =>
    DSl r5 fun l_0a l_0l l_0c =>
    again0 (⟨l_0a, l_0l, l_0c⟩, IntKind.wrap .u64 (s0.2 + 1)) h_5
   else
    Q (.slice s0.1.a s0.1.l s0.1.c) h_2)) (⟨none, 0, 0⟩, 0) h_0)
theorem F111_eq : (fun (r0 : Option Addr) (next0 : Value) (h : Heap) (Q : Value → Heap → Prop) => fnPT Tryz.prog Tryz.f111 (fun i => bif Nat.beq i 0 then annCons 6 (codSl) (annOne 20 (codI .u64)) else annNil) (fun _ => []) (fun _ => none) [.pointer r0, next0] h Q) = F111 := by kernel_rfl
theorem F111_ok {r0 : Option Addr} {next0 : Value} {h : Heap} {Q : Value → Heap → Prop} (H : F111 r0 next0 h Q) : CallsH Tryz.prog 111 [.pointer r0, next0] h Q :=
 callsH_of (ann := fun i => bif Nat.beq i 0 then annCons 6 (codSl) (annOne 20 (codI .u64)) else annNil) (tys := fun _ => []) (pl := fun _ => none) Tryz.func111 (by kernel_rfl) (by have e := F111_eq; exact (congrFun (congrFun (congrFun (congrFun (e) r0) next0) h) Q).symm ▸ H)

/-- headgate/code.Unpairs$1$1 -/
def F112 (c0 : Addr) (h : Heap) (Q : Value → Heap → Prop) : Prop :=
 Al h (.cells #[.string .empty, .string .empty] 96) fun b0 h_0 =>
 Ld h_0 c0 fun v0 => DP v0 fun x0 =>
 Ld h_0 c0 fun v1 => DP v1 fun x1 =>
 CallsH Tryz.prog 113 [.pointer x0] h_0 fun r1 h_1 =>
 DS r1 fun x2 =>
 (Ld h_1 c0 fun v2 => DP v2 fun x3 =>
 SameV (some (.pointer x1)) (.pointer x3)) ∧
 CallsH Tryz.prog 113 [.pointer x1] h_1 fun r2 h_2 =>
 DS r2 fun x4 =>
 StC h_2 ((Addr.mk b0 0 none).add 0) (.string x2) fun h_4 =>
 StC h_4 ((Addr.mk b0 0 none).add 1) (.string x4) fun h_5 =>
 Ld h_5 ((Addr.mk b0 0 none).add 0) fun c1 =>
 Ld h_5 ((Addr.mk b0 0 none).add 1) fun c2 =>
 ∃ (res0 : ByteArray), ∃ (res1 : ByteArray), (Value.agg #[c1, c2]) = .agg #[.string res0, .string res1] ∧
 Q (.agg #[.string res0, .string res1]) h_5
theorem F112_eq : (fun (c0 : Addr) (h : Heap) (Q : Value → Heap → Prop) => fnPT Tryz.prog Tryz.f112 (fun _ => annNil) (fun _ => []) (fun i => bif Nat.beq i 1 then some ⟨[0, 1, 0, 7, 15, 31], 42⟩ else none) [.pointer (some c0)] h Q) = F112 := by kernel_rfl
theorem F112_ok {c0 : Addr} {h : Heap} {Q : Value → Heap → Prop} (H : F112 c0 h Q) : CallsH Tryz.prog 112 [.pointer (some c0)] h Q :=
 callsH_of (ann := fun _ => annNil) (tys := fun _ => []) (pl := fun i => bif Nat.beq i 1 then some ⟨[0, 1, 0, 7, 15, 31], 42⟩ else none) Tryz.func112 (by kernel_rfl) (by have e := F112_eq; exact (congrFun (congrFun (congrFun (e) c0) h) Q).symm ▸ H)

/-- (*headgate/code.reader).word -/
def F113 (r0 : Option Addr) (h : Heap) (Q : Value → Heap → Prop) : Prop :=
 CallsH Tryz.prog 183 [.pointer r0] h fun r1 h_0 =>
 DI .u64 r1 fun x0 =>
 CallsH Tryz.prog 184 [.pointer r0, .int .u64 x0] h_0 fun r2 h_1 =>
 DSl r2 fun x1a x1l x1c =>
 ∃ bs0 : ByteArray, BytesIn h_1 x1a x1l bs0 ∧
 Q (.string bs0) h_1
theorem F113_eq : (fun (r0 : Option Addr) (h : Heap) (Q : Value → Heap → Prop) => fnPT Tryz.prog Tryz.f113 (fun _ => annNil) (fun _ => []) (fun _ => none) [.pointer r0] h Q) = F113 := by kernel_rfl
theorem F113_ok {r0 : Option Addr} {h : Heap} {Q : Value → Heap → Prop} (H : F113 r0 h Q) : CallsH Tryz.prog 113 [.pointer r0] h Q :=
 callsH_of (ann := fun _ => annNil) (tys := fun _ => []) (pl := fun _ => none) Tryz.func113 (by kernel_rfl) (by have e := F113_eq; exact (congrFun (congrFun (congrFun (e) r0) h) Q).symm ▸ H)

/-- headgate/code.read[[]headgate/api.Value] -/
def F117 (b0a : Option Addr) (b0l : Nat) (b0c : Nat) (next0 : Value) (h : Heap) (Q : Value → Heap → Prop) : Prop :=
 Al h (.cells #[.slice none 0 0] 24) fun b1 h_0 =>
 Al h_0 (.cells #[.int .i64 0] 25) fun b2 h_1 =>
 Al h_1 (.cells #[.slice b0a b0l b0c] 281) fun b3 h_2 =>
 CallV Tryz.prog next0 [.pointer (some (Addr.mk b3 0 none))] h_2 fun r3 h_3 =>
 DSl r3 fun x0a x0l x0c =>
 StC h_3 ((Addr.mk b1 0 none).add 0) (.slice x0a x0l x0c) fun h_5 =>
 Ld h_5 ((Addr.mk b3 0 none).add 0) fun v0 => DSl v0 fun x1a x1l x1c =>
 (bif decide (((x1l : Int) : Int) > 0) then
  False
  
 else
  (bif decide (((b0l : Int) : Int) > 16777216) then
   False
   
  else
   Ld h_5 (Addr.mk b1 0 none) fun v1 => DSl v1 fun x2a x2l x2c =>
   StC h_5 ((Addr.mk b1 0 none).add 0) (.slice x2a x2l x2c) fun h_9 =>
   StC h_9 ((Addr.mk b2 0 none).add 0) (.int .i64 0) fun h_11 =>
   DeferH Tryz.prog 187 [.pointer (some (Addr.mk b1 0 none)), .pointer (some (Addr.mk b2 0 none))] h_11 fun h_12 =>
   Ld h_12 (Addr.mk b1 0 none) fun v2 => DSl v2 fun res0a res0l res0c =>
   Ld h_12 (Addr.mk b2 0 none) fun v3 => DI .i64 v3 fun res1 =>
   Q (.tuple #[.slice res0a res0l res0c, .int .i64 res1]) h_12))
theorem F117_eq : (fun (b0a : Option Addr) (b0l : Nat) (b0c : Nat) (next0 : Value) (h : Heap) (Q : Value → Heap → Prop) => fnPTd Tryz.prog Tryz.f117 (fun _ => annNil) (fun _ => []) (fun _ => none) [.slice b0a b0l b0c, next0] h Q) = F117 := by kernel_rfl
theorem F117_ok {b0a : Option Addr} {b0l : Nat} {b0c : Nat} {next0 : Value} {h : Heap} {Q : Value → Heap → Prop} (H : F117 b0a b0l b0c next0 h Q) : CallsH Tryz.prog 117 [.slice b0a b0l b0c, next0] h Q :=
 callsHd_of (ann := fun _ => annNil) (tys := fun _ => []) (pl := fun _ => none) Tryz.func117 (by kernel_rfl) (by have e := F117_eq; exact (congrFun (congrFun (congrFun (congrFun (congrFun (congrFun (e) b0a) b0l) b0c) next0) h) Q).symm ▸ H)

/-- headgate/code.Unrows$1 -/
def F118 (r0 : Option Addr) (h : Heap) (Q : Value → Heap → Prop) : Prop :=
 Al h (.cells #[.pointer r0] 194) fun b0 h_0 =>
 Ld h_0 (Addr.mk b0 0 none) fun v0 => DP v0 fun x0 =>
 CallsH Tryz.prog 119 [.pointer x0, .func (.func 120) #[] #[.pointer (some (Addr.mk b0 0 none))]] h_0 fun r2 h_1 =>
 DSl r2 fun x1a x1l x1c =>
 Q (.slice x1a x1l x1c) h_1
theorem F118_eq : (fun (r0 : Option Addr) (h : Heap) (Q : Value → Heap → Prop) => fnPT Tryz.prog Tryz.f118 (fun _ => annNil) (fun _ => []) (fun _ => none) [.pointer r0] h Q) = F118 := by kernel_rfl
theorem F118_ok {r0 : Option Addr} {h : Heap} {Q : Value → Heap → Prop} (H : F118 r0 h Q) : CallsH Tryz.prog 118 [.pointer r0] h Q :=
 callsH_of (ann := fun _ => annNil) (tys := fun _ => []) (pl := fun _ => none) Tryz.func118 (by kernel_rfl) (by have e := F118_eq; exact (congrFun (congrFun (congrFun (e) r0) h) Q).symm ▸ H)

/-- headgate/code.items[[]headgate/api.Value] -/
def F119 (r0 : Option Addr) (next0 : Value) (h : Heap) (Q : Value → Heap → Prop) : Prop :=
 CallsH Tryz.prog 183 [.pointer r0] h fun r1 h_0 =>
 DI .u64 r1 fun n0 =>
 NN' r0 fun a0 =>
 Ld h_0 (a0.add 0) fun v0 => DSl v0 fun x0a x0l x0c =>
 (bif decide ((n0 : Int) > (IntKind.wrap .u64 (x0l : Int))) then
  False
  
 else
  LoopH (fun again0 (s0 : Sl × Int) h_2 =>
   (bif decide ((s0.2 : Int) < n0) then
    CallV Tryz.prog next0 [] h_2 fun r3 h_3 =>
    DSl r3 fun x1a x1l x1c =>
    Al h_3 (.cells #[.slice x1a x1l x1c] 81) fun b0 h_4 =>
    RunH Tryz.prog (Builtin.append_ #[24, 24] 24 #[.slice s0.1.a s0.1.l s0.1.c, .slice (some (Addr.mk b0 0 none)) 1 1]) h_4 fun r5 h_5 =>
    DSl r5 fun l_0a l_0l l_0c =>
    again0 (⟨l_0a, l_0l, l_0c⟩, IntKind.wrap .u64 (s0.2 + 1)) h_5
   else
    Q (.slice s0.1.a s0.1.l s0.1.c) h_2)) (⟨none, 0, 0⟩, 0) h_0)
theorem F119_eq : (fun (r0 : Option Addr) (next0 : Value) (h : Heap) (Q : Value → Heap → Prop) => fnPT Tryz.prog Tryz.f119 (fun i => bif Nat.beq i 0 then annCons 6 (codSl) (annOne 20 (codI .u64)) else annNil) (fun _ => []) (fun _ => none) [.pointer r0, next0] h Q) = F119 := by kernel_rfl
theorem F119_ok {r0 : Option Addr} {next0 : Value} {h : Heap} {Q : Value → Heap → Prop} (H : F119 r0 next0 h Q) : CallsH Tryz.prog 119 [.pointer r0, next0] h Q :=
 callsH_of (ann := fun i => bif Nat.beq i 0 then annCons 6 (codSl) (annOne 20 (codI .u64)) else annNil) (tys := fun _ => []) (pl := fun _ => none) Tryz.func119 (by kernel_rfl) (by have e := F119_eq; exact (congrFun (congrFun (congrFun (congrFun (e) r0) next0) h) Q).symm ▸ H)

/-- headgate/code.Unrows$1$1 -/
def F120 (c0 : Addr) (h : Heap) (Q : Value → Heap → Prop) : Prop :=
 Ld h c0 fun v0 => DP v0 fun x0 =>
 Ld h c0 fun v1 => DP v1 fun x1 =>
 CallsH Tryz.prog 121 [.pointer x0, .func (.func 122) #[.pointer x1] #[]] h fun r0 h_0 =>
 DSl r0 fun l_0a l_0l l_0c =>
 CallsH Tryz.prog 123 [.slice l_0a l_0l l_0c] h_0 fun r1 h_1 =>
 DB r1 fun x2 =>
 (bif !x2 then
  False
  
 else
  Q (.slice l_0a l_0l l_0c) h_1)
theorem F120_eq : (fun (c0 : Addr) (h : Heap) (Q : Value → Heap → Prop) => fnPT Tryz.prog Tryz.f120 (fun _ => annNil) (fun _ => []) (fun _ => none) [.pointer (some c0)] h Q) = F120 := by kernel_rfl
theorem F120_ok {c0 : Addr} {h : Heap} {Q : Value → Heap → Prop} (H : F120 c0 h Q) : CallsH Tryz.prog 120 [.pointer (some c0)] h Q :=
 callsH_of (ann := fun _ => annNil) (tys := fun _ => []) (pl := fun _ => none) Tryz.func120 (by kernel_rfl) (by have e := F120_eq; exact (congrFun (congrFun (congrFun (e) c0) h) Q).symm ▸ H)

/-- headgate/code.items[headgate/api.Value] -/
def F121 (r0 : Option Addr) (next0 : Value) (h : Heap) (Q : Value → Heap → Prop) : Prop :=
 CallsH Tryz.prog 183 [.pointer r0] h fun r1 h_0 =>
 DI .u64 r1 fun n0 =>
 NN' r0 fun a0 =>
 Ld h_0 (a0.add 0) fun v0 => DSl v0 fun x0a x0l x0c =>
 (bif decide ((n0 : Int) > (IntKind.wrap .u64 (x0l : Int))) then
  False
  
 else
  LoopH (fun again0 (s0 : Sl × Int) h_2 =>
   (bif decide ((s0.2 : Int) < n0) then
    CallV Tryz.prog next0 [] h_2 fun r3 h_3 =>
    ∃ (x1 : Int), ∃ (x2 : Int), ∃ (x3 : ByteArray), r3 = .agg #[.int .i64 x1, .int .i64 x2, .string x3] ∧
    Al h_3 (.cells #[.int .i64 x1, .int .i64 x2, .string x3] 84) fun b0 h_4 =>
    RunH Tryz.prog (Builtin.append_ #[81, 81] 81 #[.slice s0.1.a s0.1.l s0.1.c, .slice (some (Addr.mk b0 0 none)) 1 1]) h_4 fun r5 h_5 =>
    DSl r5 fun l_0a l_0l l_0c =>
    again0 (⟨l_0a, l_0l, l_0c⟩, IntKind.wrap .u64 (s0.2 + 1)) h_5
   else
    Q (.slice s0.1.a s0.1.l s0.1.c) h_2)) (⟨none, 0, 0⟩, 0) h_0)
theorem F121_eq : (fun (r0 : Option Addr) (next0 : Value) (h : Heap) (Q : Value → Heap → Prop) => fnPT Tryz.prog Tryz.f121 (fun i => bif Nat.beq i 0 then annCons 6 (codSl) (annOne 20 (codI .u64)) else annNil) (fun _ => []) (fun _ => none) [.pointer r0, next0] h Q) = F121 := by kernel_rfl
theorem F121_ok {r0 : Option Addr} {next0 : Value} {h : Heap} {Q : Value → Heap → Prop} (H : F121 r0 next0 h Q) : CallsH Tryz.prog 121 [.pointer r0, next0] h Q :=
 callsH_of (ann := fun i => bif Nat.beq i 0 then annCons 6 (codSl) (annOne 20 (codI .u64)) else annNil) (tys := fun _ => []) (pl := fun _ => none) Tryz.func121 (by kernel_rfl) (by have e := F121_eq; exact (congrFun (congrFun (congrFun (congrFun (e) r0) next0) h) Q).symm ▸ H)

/-- (*headgate/code.reader).value -/
def F122 (r0 : Option Addr) (h : Heap) (Q : Value → Heap → Prop) : Prop :=
 Al h (.cells #[.int .i64 0, .int .i64 0, .string .empty] 84) fun b0 h_0 =>
 CallsH Tryz.prog 188 [.pointer r0] h_0 fun r2 h_1 =>
 DI .u8 r2 fun x0 =>
 Al h_1 (.cells #[.int .i64 0, .int .i64 0, .string .empty] 84) fun b1 h_2 =>
 StC h_2 ((Addr.mk b1 0 none).add 0) (.int .i64 (IntKind.wrap .i64 x0)) fun h_4 =>
 StC h_4 ((Addr.mk b1 0 none).add 1) (.int .i64 0) fun h_5 =>
 StC h_5 ((Addr.mk b1 0 none).add 2) (.string .empty) fun h_6 =>
 Ld h_6 ((Addr.mk b1 0 none).add 0) fun v0 => DI .i64 v0 fun x1 =>
 (bif (x1 : Int) == 1 then
  CallsH Tryz.prog 189 [.pointer r0] h_6 fun r5 h_7 =>
  DI .i64 r5 fun x2 =>
  StC h_7 (((Addr.mk b1 0 none).add 1).add 0) (.int .i64 x2) fun h_9 =>
  Ld h_9 ((Addr.mk b1 0 none).add 0) fun c0 =>
  Ld h_9 ((Addr.mk b1 0 none).add 1) fun c1 =>
  Ld h_9 ((Addr.mk b1 0 none).add 2) fun c2 =>
  ∃ (x3 : Int), ∃ (x4 : Int), ∃ (x5 : ByteArray), (Value.agg #[c0, c1, c2]) = .agg #[.int .i64 x3, .int .i64 x4, .string x5] ∧
  CallsH Tryz.prog 190 [.agg #[.int .i64 x3, .int .i64 x4, .string x5]] h_9 fun r7 h_10 =>
  DI .i64 r7 fun x6 =>
  (bif (x6 : Int) != 0 then
   False
   
  else
   Ld h_10 ((Addr.mk b1 0 none).add 0) fun c3 =>
   Ld h_10 ((Addr.mk b1 0 none).add 1) fun c4 =>
   Ld h_10 ((Addr.mk b1 0 none).add 2) fun c5 =>
   ∃ (x7 : Int), ∃ (x8 : Int), ∃ (x9 : ByteArray), (Value.agg #[c3, c4, c5]) = .agg #[.int .i64 x7, .int .i64 x8, .string x9] ∧
   StC h_10 ((Addr.mk b0 0 none).add 0) (.int .i64 x7) fun h_13 =>
   StC h_13 ((Addr.mk b0 0 none).add 1) (.int .i64 x8) fun h_14 =>
   StC h_14 ((Addr.mk b0 0 none).add 2) (.string x9) fun h_15 =>
   Ld h_15 ((Addr.mk b0 0 none).add 0) fun c6 =>
   Ld h_15 ((Addr.mk b0 0 none).add 1) fun c7 =>
   Ld h_15 ((Addr.mk b0 0 none).add 2) fun c8 =>
   ∃ (res0 : Int), ∃ (res1 : Int), ∃ (res2 : ByteArray), (Value.agg #[c6, c7, c8]) = .agg #[.int .i64 res0, .int .i64 res1, .string res2] ∧
   Q (.agg #[.int .i64 res0, .int .i64 res1, .string res2]) h_15)
 else
  (bif (x1 : Int) == 2 then
   CallsH Tryz.prog 188 [.pointer r0] h_6 fun r10 h_16 =>
   DI .u8 r10 fun x10 =>
   StC h_16 (((Addr.mk b1 0 none).add 1).add 0) (.int .i64 (IntKind.wrap .i64 x10)) fun h_18 =>
   Ld h_18 ((Addr.mk b1 0 none).add 0) fun c9 =>
   Ld h_18 ((Addr.mk b1 0 none).add 1) fun c10 =>
   Ld h_18 ((Addr.mk b1 0 none).add 2) fun c11 =>
   ∃ (x11 : Int), ∃ (x12 : Int), ∃ (x13 : ByteArray), (Value.agg #[c9, c10, c11]) = .agg #[.int .i64 x11, .int .i64 x12, .string x13] ∧
   CallsH Tryz.prog 190 [.agg #[.int .i64 x11, .int .i64 x12, .string x13]] h_18 fun r12 h_19 =>
   DI .i64 r12 fun x14 =>
   (bif (x14 : Int) != 0 then
    False
    
   else
    Ld h_19 ((Addr.mk b1 0 none).add 0) fun c12 =>
    Ld h_19 ((Addr.mk b1 0 none).add 1) fun c13 =>
    Ld h_19 ((Addr.mk b1 0 none).add 2) fun c14 =>
    ∃ (x15 : Int), ∃ (x16 : Int), ∃ (x17 : ByteArray), (Value.agg #[c12, c13, c14]) = .agg #[.int .i64 x15, .int .i64 x16, .string x17] ∧
    StC h_19 ((Addr.mk b0 0 none).add 0) (.int .i64 x15) fun h_22 =>
    StC h_22 ((Addr.mk b0 0 none).add 1) (.int .i64 x16) fun h_23 =>
    StC h_23 ((Addr.mk b0 0 none).add 2) (.string x17) fun h_24 =>
    Ld h_24 ((Addr.mk b0 0 none).add 0) fun c15 =>
    Ld h_24 ((Addr.mk b0 0 none).add 1) fun c16 =>
    Ld h_24 ((Addr.mk b0 0 none).add 2) fun c17 =>
    ∃ (res3 : Int), ∃ (res4 : Int), ∃ (res5 : ByteArray), (Value.agg #[c15, c16, c17]) = .agg #[.int .i64 res3, .int .i64 res4, .string res5] ∧
    Q (.agg #[.int .i64 res3, .int .i64 res4, .string res5]) h_24)
  else
   (bif (x1 : Int) == 3 then
    CallsH Tryz.prog 113 [.pointer r0] h_6 fun r15 h_25 =>
    DS r15 fun x18 =>
    StC h_25 (((Addr.mk b1 0 none).add 2).add 0) (.string x18) fun h_27 =>
    Ld h_27 ((Addr.mk b1 0 none).add 0) fun c18 =>
    Ld h_27 ((Addr.mk b1 0 none).add 1) fun c19 =>
    Ld h_27 ((Addr.mk b1 0 none).add 2) fun c20 =>
    ∃ (x19 : Int), ∃ (x20 : Int), ∃ (x21 : ByteArray), (Value.agg #[c18, c19, c20]) = .agg #[.int .i64 x19, .int .i64 x20, .string x21] ∧
    CallsH Tryz.prog 190 [.agg #[.int .i64 x19, .int .i64 x20, .string x21]] h_27 fun r17 h_28 =>
    DI .i64 r17 fun x22 =>
    (bif (x22 : Int) != 0 then
     False
     
    else
     Ld h_28 ((Addr.mk b1 0 none).add 0) fun c21 =>
     Ld h_28 ((Addr.mk b1 0 none).add 1) fun c22 =>
     Ld h_28 ((Addr.mk b1 0 none).add 2) fun c23 =>
     ∃ (x23 : Int), ∃ (x24 : Int), ∃ (x25 : ByteArray), (Value.agg #[c21, c22, c23]) = .agg #[.int .i64 x23, .int .i64 x24, .string x25] ∧
     StC h_28 ((Addr.mk b0 0 none).add 0) (.int .i64 x23) fun h_31 =>
     StC h_31 ((Addr.mk b0 0 none).add 1) (.int .i64 x24) fun h_32 =>
     StC h_32 ((Addr.mk b0 0 none).add 2) (.string x25) fun h_33 =>
     Ld h_33 ((Addr.mk b0 0 none).add 0) fun c24 =>
     Ld h_33 ((Addr.mk b0 0 none).add 1) fun c25 =>
     Ld h_33 ((Addr.mk b0 0 none).add 2) fun c26 =>
     ∃ (res6 : Int), ∃ (res7 : Int), ∃ (res8 : ByteArray), (Value.agg #[c24, c25, c26]) = .agg #[.int .i64 res6, .int .i64 res7, .string res8] ∧
     Q (.agg #[.int .i64 res6, .int .i64 res7, .string res8]) h_33)
   else
    Ld h_6 ((Addr.mk b1 0 none).add 0) fun c27 =>
    Ld h_6 ((Addr.mk b1 0 none).add 1) fun c28 =>
    Ld h_6 ((Addr.mk b1 0 none).add 2) fun c29 =>
    ∃ (x26 : Int), ∃ (x27 : Int), ∃ (x28 : ByteArray), (Value.agg #[c27, c28, c29]) = .agg #[.int .i64 x26, .int .i64 x27, .string x28] ∧
    CallsH Tryz.prog 190 [.agg #[.int .i64 x26, .int .i64 x27, .string x28]] h_6 fun r20 h_34 =>
    DI .i64 r20 fun x29 =>
    (bif (x29 : Int) != 0 then
     False
     
    else
     Ld h_34 ((Addr.mk b1 0 none).add 0) fun c30 =>
     Ld h_34 ((Addr.mk b1 0 none).add 1) fun c31 =>
     Ld h_34 ((Addr.mk b1 0 none).add 2) fun c32 =>
     ∃ (x30 : Int), ∃ (x31 : Int), ∃ (x32 : ByteArray), (Value.agg #[c30, c31, c32]) = .agg #[.int .i64 x30, .int .i64 x31, .string x32] ∧
     StC h_34 ((Addr.mk b0 0 none).add 0) (.int .i64 x30) fun h_37 =>
     StC h_37 ((Addr.mk b0 0 none).add 1) (.int .i64 x31) fun h_38 =>
     StC h_38 ((Addr.mk b0 0 none).add 2) (.string x32) fun h_39 =>
     Ld h_39 ((Addr.mk b0 0 none).add 0) fun c33 =>
     Ld h_39 ((Addr.mk b0 0 none).add 1) fun c34 =>
     Ld h_39 ((Addr.mk b0 0 none).add 2) fun c35 =>
     ∃ (res9 : Int), ∃ (res10 : Int), ∃ (res11 : ByteArray), (Value.agg #[c33, c34, c35]) = .agg #[.int .i64 res9, .int .i64 res10, .string res11] ∧
     Q (.agg #[.int .i64 res9, .int .i64 res10, .string res11]) h_39))))
theorem F122_eq : (fun (r0 : Option Addr) (h : Heap) (Q : Value → Heap → Prop) => fnPT Tryz.prog Tryz.f122 (fun _ => annNil) (fun _ => []) (fun _ => none) [.pointer r0] h Q) = F122 := by kernel_rfl
theorem F122_ok {r0 : Option Addr} {h : Heap} {Q : Value → Heap → Prop} (H : F122 r0 h Q) : CallsH Tryz.prog 122 [.pointer r0] h Q :=
 callsH_of (ann := fun _ => annNil) (tys := fun _ => []) (pl := fun _ => none) Tryz.func122 (by kernel_rfl) (by have e := F122_eq; exact (congrFun (congrFun (congrFun (e) r0) h) Q).symm ▸ H)

/-- headgate/value.Row -/
def F123 (l_0a : Option Addr) (l_0l : Nat) (l_0c : Nat) (h : Heap) (Q : Value → Heap → Prop) : Prop :=
 LoopH (fun again0 (s0 : Int) h_0 =>
  (bif decide ((s0 : Int) < (l_0l : Int)) then
   IdxA l_0a l_0l s0 3 fun a0 =>
   Ld h_0 (a0.add 0) fun c0 =>
   Ld h_0 (a0.add 1) fun c1 =>
   Ld h_0 (a0.add 2) fun c2 =>
   ∃ (x0 : Int), ∃ (x1 : Int), ∃ (x2 : ByteArray), (Value.agg #[c0, c1, c2]) = .agg #[.int .i64 x0, .int .i64 x1, .string x2] ∧
   Al h_0 (.cells #[.int .i64 0, .int .i64 0, .string .empty] 84) fun b0 h_1 =>
   StC h_1 ((Addr.mk b0 0 none).add 0) (.int .i64 x0) fun h_3 =>
   StC h_3 ((Addr.mk b0 0 none).add 1) (.int .i64 x1) fun h_4 =>
   StC h_4 ((Addr.mk b0 0 none).add 2) (.string x2) fun h_5 =>
   (bif (s0 : Int) == 12 then
    Q (.bool false) h_5
   else
    Ld h_5 ((Addr.mk b0 0 none).add 0) fun c3 =>
    Ld h_5 ((Addr.mk b0 0 none).add 1) fun c4 =>
    Ld h_5 ((Addr.mk b0 0 none).add 2) fun c5 =>
    ∃ (x3 : Int), ∃ (x4 : Int), ∃ (x5 : ByteArray), (Value.agg #[c3, c4, c5]) = .agg #[.int .i64 x3, .int .i64 x4, .string x5] ∧
    CallsH Tryz.prog 190 [.agg #[.int .i64 x3, .int .i64 x4, .string x5]] h_5 fun r2 h_6 =>
    DI .i64 r2 fun x6 =>
    (bif (x6 : Int) != 0 then
     Q (.bool false) h_6
    else
     again0 (IntKind.wrap .i64 (s0 + 1)) h_6))
  else
   Q (.bool true) h_0)) 0 h
theorem F123_eq : (fun (l_0a : Option Addr) (l_0l : Nat) (l_0c : Nat) (h : Heap) (Q : Value → Heap → Prop) => fnPT Tryz.prog Tryz.f123 (fun i => bif Nat.beq i 0 then annOne 7 (codI .i64) else annNil) (fun _ => []) (fun _ => none) [.slice l_0a l_0l l_0c] h Q) = F123 := by kernel_rfl
theorem F123_ok {l_0a : Option Addr} {l_0l : Nat} {l_0c : Nat} {h : Heap} {Q : Value → Heap → Prop} (H : F123 l_0a l_0l l_0c h Q) : CallsH Tryz.prog 123 [.slice l_0a l_0l l_0c] h Q :=
 callsH_of (ann := fun i => bif Nat.beq i 0 then annOne 7 (codI .i64) else annNil) (tys := fun _ => []) (pl := fun _ => none) Tryz.func123 (by kernel_rfl) (by have e := F123_eq; exact (congrFun (congrFun (congrFun (congrFun (congrFun (e) l_0a) l_0l) l_0c) h) Q).symm ▸ H)

/-- (*headgate/metalog.Log).entries -/
def F124 (l_0 : Option Addr) (h : Heap) (Q : Value → Heap → Prop) : Prop :=
 NN' l_0 fun a0 =>
 Ld h (a0.add 2) fun v0 => DM v0 fun x0 =>
 CallsH Tryz.prog 191 [.map x0] h fun r0 h_0 =>
 DM r0 fun t0 =>
 NN' l_0 fun a1 =>
 Ld h_0 (a1.add 4) fun v1 => DM v1 fun x1 =>
 CallsH Tryz.prog 192 [.map t0, .map x1] h_0 fun r1 h_1 =>
 r1 = .tuple #[] ∧
 Q (.map t0) h_1
theorem F124_eq : (fun (l_0 : Option Addr) (h : Heap) (Q : Value → Heap → Prop) => fnPT Tryz.prog Tryz.f124 (fun _ => annNil) (fun _ => []) (fun _ => none) [.pointer l_0] h Q) = F124 := by kernel_rfl
theorem F124_ok {l_0 : Option Addr} {h : Heap} {Q : Value → Heap → Prop} (H : F124 l_0 h Q) : CallsH Tryz.prog 124 [.pointer l_0] h Q :=
 callsH_of (ann := fun _ => annNil) (tys := fun _ => []) (pl := fun _ => none) Tryz.func124 (by kernel_rfl) (by have e := F124_eq; exact (congrFun (congrFun (congrFun (e) l_0) h) Q).symm ▸ H)

/-- (*headgate/metalog.Log).All$1 -/
def F125 (yield0f : Fn) (yield0p : Array Value) (yield0c : Array Value) (c0 : Addr) (h : Heap) (Q : Value → Heap → Prop) : Prop :=
 Al h (.cells #[.func yield0f yield0p yield0c] 216) fun b0 h_0 =>
 Ld h_0 c0 fun v0 => DM v0 fun x0 =>
 CallsH Tryz.prog 126 [.map x0] h_0 fun r1 h_1 =>
 ∃ (x1 : Value), r1 = x1 ∧
 RangeFn Tryz.prog x1 2 none h_1 (fun l_0 rec_0 args0 h_2 Q_0 =>
  ∃ (y0 : Int), ∃ (y1a : Option Addr), ∃ (y1l : Nat), ∃ (y1c : Nat), args0 = [.int .i64 y0, .slice y1a y1l y1c] ∧
  h_2[l_0]? = some (rec_0 .ready none) ∧
  Ld (h_2.setIfInBounds l_0 (rec_0 .busy none)) (Addr.mk b0 0 none) fun v1 => ∃ (x2 : Value), v1 = x2 ∧
  CallsH Tryz.prog 108 [.slice y1a y1l y1c] (h_2.setIfInBounds l_0 (rec_0 .busy none)) fun r2 h_3 =>
  DSl r2 fun x3a x3l x3c =>
  (Ld h_3 (Addr.mk b0 0 none) fun v2 => ∃ (x4 : Value), v2 = x4 ∧
  SameV (some x2) x4) ∧
  (SameV (some (.int .i64 y0)) (.int .i64 y0)) ∧
  CallV Tryz.prog x2 [.int .i64 y0, .slice x3a x3l x3c] h_3 fun r3 h_4 =>
  DB r3 fun x5 =>
  (bif !x5 then
   h_4[l_0]? = some (rec_0 .busy none) ∧ Q_0 (.bool false) (h_4.setIfInBounds l_0 (rec_0 .done (some .ret)))
  else
   h_4[l_0]? = some (rec_0 .busy none) ∧ Q_0 (.bool true) (h_4.setIfInBounds l_0 (rec_0 .ready none)))) (fun pend0 h_5 =>
  (pend0 = none ∨ pend0 = some (.ret)) ∧
  (pend0 = none →
   h_5[h_1.size]? = some (.deferred (some [])) ∧
   Q (.tuple #[]) (h_5.setIfInBounds h_1.size (.deferred none))) ∧
  (pend0 = some (.ret) →
   h_5[h_1.size]? = some (.deferred (some [])) ∧
   Q (.tuple #[]) (h_5.setIfInBounds h_1.size (.deferred none))))
theorem F125_eq : (fun (yield0f : Fn) (yield0p : Array Value) (yield0c : Array Value) (c0 : Addr) (h : Heap) (Q : Value → Heap → Prop) => fnPT Tryz.prog Tryz.f125 (fun _ => annNil) (fun i => bif Nat.beq i 0 then [2, 85] else []) (fun i => bif Nat.beq i 4 then some ⟨[0, 0, 0, 4, 15, 31], 24⟩ else none) [.func yield0f yield0p yield0c, .pointer (some c0)] h Q) = F125 := by kernel_rfl
theorem F125_ok {yield0f : Fn} {yield0p : Array Value} {yield0c : Array Value} {c0 : Addr} {h : Heap} {Q : Value → Heap → Prop} (H : F125 yield0f yield0p yield0c c0 h Q) : CallsH Tryz.prog 125 [.func yield0f yield0p yield0c, .pointer (some c0)] h Q :=
 callsH_of (ann := fun _ => annNil) (tys := fun i => bif Nat.beq i 0 then [2, 85] else []) (pl := fun i => bif Nat.beq i 4 then some ⟨[0, 0, 0, 4, 15, 31], 24⟩ else none) Tryz.func125 (by kernel_rfl) (by have e := F125_eq; exact (congrFun (congrFun (congrFun (congrFun (congrFun (congrFun (e) yield0f) yield0p) yield0c) c0) h) Q).symm ▸ H)

/-- (headgate/metalog.table[[]byte]).rising -/
def F126 (t0 : Option Nat) (h : Heap) (Q : Value → Heap → Prop) : Prop :=
 Al h (.cells #[.map t0] 214) fun b0 h_0 =>
 Ld h_0 (Addr.mk b0 0 none) fun v0 => DM v0 fun x0 =>
 CallsH Tryz.prog 194 [.map x0] h_0 fun r1 h_1 =>
 ∃ (x1 : Value), r1 = x1 ∧
 CallsH Tryz.prog 193 [x1] h_1 fun r2 h_2 =>
 DSl r2 fun x2a x2l x2c =>
 Al h_2 (.cells #[.slice none 0 0] 240) fun b1 h_3 =>
 StC h_3 ((Addr.mk b1 0 none).add 0) (.slice x2a x2l x2c) fun h_5 =>
 Q (.func (.func 195) #[] #[.pointer (some (Addr.mk b1 0 none)), .pointer (some (Addr.mk b0 0 none))]) h_5
theorem F126_eq : (fun (t0 : Option Nat) (h : Heap) (Q : Value → Heap → Prop) => fnPT Tryz.prog Tryz.f126 (fun _ => annNil) (fun _ => []) (fun _ => none) [.map t0] h Q) = F126 := by kernel_rfl
theorem F126_ok {t0 : Option Nat} {h : Heap} {Q : Value → Heap → Prop} (H : F126 t0 h Q) : CallsH Tryz.prog 126 [.map t0] h Q :=
 callsH_of (ann := fun _ => annNil) (tys := fun _ => []) (pl := fun _ => none) Tryz.func126 (by kernel_rfl) (by have e := F126_eq; exact (congrFun (congrFun (congrFun (e) t0) h) Q).symm ▸ H)

/-- headgate/metalog.kind -/
def F128 (name0 : ByteArray) (h : Heap) (Q : Value → Heap → Prop) : Prop :=
 (bif (((name0 : ByteArray).size : Int) : Int) != 18 then
  Q (.tuple #[.int .u8 0, .int .i64 0, .bool false]) h
 else
  0 ≤ (1 : Int) ∧ (1 : Int) < ((name0 : ByteArray).size : Int) ∧
  (bif ((bt name0 1) : Int) != 46 then
   Q (.tuple #[.int .u8 0, .int .i64 0, .bool false]) h
  else
   0 ≤ (0 : Int) ∧ (0 : Int) < ((name0 : ByteArray).size : Int) ∧
   (bif ((bt name0 0) : Int) != 98 then
    0 ≤ (0 : Int) ∧ (0 : Int) < ((name0 : ByteArray).size : Int) ∧
    (bif ((bt name0 0) : Int) != 102 then
     Q (.tuple #[.int .u8 0, .int .i64 0, .bool false]) h
    else
     SlS name0 2 ((name0 : ByteArray).size : Int) fun s0 =>
     CallsH Tryz.prog 37 [.string s0] h fun r0 h_0 =>
     ∃ (x0 : Int), ∃ (x1 : Bool), r0 = .tuple #[.int .i64 x0, .bool x1] ∧
     0 ≤ (0 : Int) ∧ (0 : Int) < ((name0 : ByteArray).size : Int) ∧
     Q (.tuple #[.int .u8 (bt name0 0), .int .i64 x0, .bool x1]) h_0)
   else
    SlS name0 2 ((name0 : ByteArray).size : Int) fun s1 =>
    CallsH Tryz.prog 37 [.string s1] h fun r1 h_1 =>
    ∃ (x2 : Int), ∃ (x3 : Bool), r1 = .tuple #[.int .i64 x2, .bool x3] ∧
    0 ≤ (0 : Int) ∧ (0 : Int) < ((name0 : ByteArray).size : Int) ∧
    Q (.tuple #[.int .u8 (bt name0 0), .int .i64 x2, .bool x3]) h_1)))
theorem F128_eq : (fun (name0 : ByteArray) (h : Heap) (Q : Value → Heap → Prop) => fnPT Tryz.prog Tryz.f128 (fun _ => annNil) (fun _ => []) (fun _ => none) [.string name0] h Q) = F128 := by kernel_rfl
theorem F128_ok {name0 : ByteArray} {h : Heap} {Q : Value → Heap → Prop} (H : F128 name0 h Q) : CallsH Tryz.prog 128 [.string name0] h Q :=
 callsH_of (ann := fun _ => annNil) (tys := fun _ => []) (pl := fun _ => none) Tryz.func128 (by kernel_rfl) (by have e := F128_eq; exact (congrFun (congrFun (congrFun (e) name0) h) Q).symm ▸ H)

/-- (*headgate/metalog.Log).top -/
def F129 (l_0 : Option Addr) (h : Heap) (Q : Value → Heap → Prop) : Prop :=
 NN' l_0 fun a0 =>
 Ld h (a0.add 3) fun v0 => DM v0 fun x0 =>
 RunH Tryz.prog (Instr.range 219 (.map x0)) h fun r0 h_0 =>
 DP r0 fun p0 =>
 LoopH (fun again0 (s0 : Int) h_1 =>
  RunH Tryz.prog (Instr.next (.pointer p0) false 0) h_1 fun r1 h_2 =>
  (
   r1 = .tuple #[.bool false] ∧
   Q (.int .i64 s0) h_2) ∨ (
   ∃ (k0 x1 : Value), r1 = .tuple #[.bool true, k0, x1] ∧
   RunH Tryz.prog (Instr.entry (.pointer p0)) h_2 fun r2 h_3 =>
   ∃ (x2 : Int), ∃ (x3 : Value), r2 = .tuple #[.int .i64 x2, x3] ∧
   again0 (if (x2 : Int) > s0 then x2 else s0) h_3)) (-1) h_0
theorem F129_eq : (fun (l_0 : Option Addr) (h : Heap) (Q : Value → Heap → Prop) => fnPT Tryz.prog Tryz.f129 (fun i => bif Nat.beq i 0 then annOne 3 (codI .i64) else annNil) (fun i => bif Nat.beq i 1004 then [2, 0] else []) (fun _ => none) [.pointer l_0] h Q) = F129 := by kernel_rfl
theorem F129_ok {l_0 : Option Addr} {h : Heap} {Q : Value → Heap → Prop} (H : F129 l_0 h Q) : CallsH Tryz.prog 129 [.pointer l_0] h Q :=
 callsH_of (ann := fun i => bif Nat.beq i 0 then annOne 3 (codI .i64) else annNil) (tys := fun i => bif Nat.beq i 1004 then [2, 0] else []) (pl := fun _ => none) Tryz.func129 (by kernel_rfl) (by have e := F129_eq; exact (congrFun (congrFun (congrFun (e) l_0) h) Q).symm ▸ H)

/-- headgate/sink.batch -/
def F131 (s0 : ByteArray) (h : Heap) (Q : Value → Heap → Prop) : Prop :=
 (bif (((s0 : ByteArray).size : Int) : Int) != 20 then
  Q (.tuple #[.int .i64 0, .bool false]) h
 else
  SlS s0 0 2 fun s1 =>
  (bif !strEq s1 ⟨#[114, 46]⟩ then
   Q (.tuple #[.int .i64 0, .bool false]) h
  else
   0 ≤ (18 : Int) ∧ (18 : Int) < ((s0 : ByteArray).size : Int) ∧
   (bif ((bt s0 18) : Int) != 46 then
    Q (.tuple #[.int .i64 0, .bool false]) h
   else
    0 ≤ (19 : Int) ∧ (19 : Int) < ((s0 : ByteArray).size : Int) ∧
    (bif decide (((bt s0 19) : Int) < 48) then
     Q (.tuple #[.int .i64 0, .bool false]) h
    else
     0 ≤ (19 : Int) ∧ (19 : Int) < ((s0 : ByteArray).size : Int) ∧
     (bif decide (((bt s0 19) : Int) > 57) then
      Q (.tuple #[.int .i64 0, .bool false]) h
     else
      SlS s0 2 18 fun s2 =>
      CallsH Tryz.prog 37 [.string s2] h fun r0 h_0 =>
      ∃ (x0 : Int), ∃ (x1 : Bool), r0 = .tuple #[.int .i64 x0, .bool x1] ∧
      Q (.tuple #[.int .i64 x0, .bool x1]) h_0)))))
theorem F131_eq : (fun (s0 : ByteArray) (h : Heap) (Q : Value → Heap → Prop) => fnPT Tryz.prog Tryz.f131 (fun _ => annNil) (fun _ => []) (fun _ => none) [.string s0] h Q) = F131 := by kernel_rfl
theorem F131_ok {s0 : ByteArray} {h : Heap} {Q : Value → Heap → Prop} (H : F131 s0 h Q) : CallsH Tryz.prog 131 [.string s0] h Q :=
 callsH_of (ann := fun _ => annNil) (tys := fun _ => []) (pl := fun _ => none) Tryz.func131 (by kernel_rfl) (by have e := F131_eq; exact (congrFun (congrFun (congrFun (e) s0) h) Q).symm ▸ H)

/-- headgate/value.Key -/
def F132 (l_0a : Option Addr) (l_0l : Nat) (l_0c : Nat) (h : Heap) (Q : Value → Heap → Prop) : Prop :=
 CallsH Tryz.prog 123 [.slice l_0a l_0l l_0c] h fun r0 h_0 =>
 DB r0 fun x0 =>
 (bif !x0 then
  Q (.tuple #[.string .empty, .int .i64 31]) h_0
 else
  Al h_0 (.cells #[.slice none 0 0] 85) fun b0 h_1 =>
  CallsH Tryz.prog 197 [.slice l_0a l_0l l_0c] h_1 fun r2 h_2 =>
  ∃ (x1 : Value), r2 = x1 ∧
  RangeFn Tryz.prog x1 2 none h_2 (fun l_1 rec_0 args0 h_3 Q_0 =>
   ∃ (y0 : Int), ∃ (y1 : Int), ∃ (y2 : Int), ∃ (y3 : ByteArray), args0 = [.int .i64 y0, .agg #[.int .i64 y1, .int .i64 y2, .string y3]] ∧
   Al h_3 (.cells #[.int .i64 0, .int .i64 0, .string .empty] 84) fun b1 h_4 =>
   StC h_4 ((Addr.mk b1 0 none).add 0) (.int .i64 y1) fun h_6 =>
   StC h_6 ((Addr.mk b1 0 none).add 1) (.int .i64 y2) fun h_7 =>
   StC h_7 ((Addr.mk b1 0 none).add 2) (.string y3) fun h_8 =>
   h_8[l_1]? = some (rec_0 .ready none) ∧
   Ld (h_8.setIfInBounds l_1 (rec_0 .busy none)) (Addr.mk b0 0 none) fun v0 => DSl v0 fun x2a x2l x2c =>
   Ld (h_8.setIfInBounds l_1 (rec_0 .busy none)) ((Addr.mk b1 0 none).add 0) fun v1 => DI .i64 v1 fun x3 =>
   Al (h_8.setIfInBounds l_1 (rec_0 .busy none)) (.cells #[.int .u8 (IntKind.wrap .u8 ((IntKind.wrap .u8 x3) + 1))] 5) fun b2 h_9 =>
   RunH Tryz.prog (Builtin.append_ #[85, 85] 85 #[.slice x2a x2l x2c, .slice (some (Addr.mk b2 0 none)) 1 1]) h_9 fun r6 h_10 =>
   DSl r6 fun x4a x4l x4c =>
   StC h_10 ((Addr.mk b0 0 none).add 0) (.slice x4a x4l x4c) fun h_12 =>
   Ld h_12 ((Addr.mk b1 0 none).add 0) fun v2 => DI .i64 v2 fun x5 =>
   (bif (x5 : Int) == 1 then
    Ld h_12 (Addr.mk b0 0 none) fun v3 => DSl v3 fun x6a x6l x6c =>
    Ld h_12 ((Addr.mk b1 0 none).add 1) fun v4 => DI .i64 v4 fun x7 =>
    CallsH Tryz.prog 198 [.slice x6a x6l x6c, .int .u64 (bitsI .xor .u64 (IntKind.wrap .u64 x7) 9223372036854775808)] h_12 fun r8 h_13 =>
    DSl r8 fun x8a x8l x8c =>
    StC h_13 ((Addr.mk b0 0 none).add 0) (.slice x8a x8l x8c) fun h_15 =>
    h_15[l_1]? = some (rec_0 .busy none) ∧ Q_0 (.bool true) (h_15.setIfInBounds l_1 (rec_0 .ready none))
   else
    (bif (x5 : Int) == 2 then
     Ld h_12 (Addr.mk b0 0 none) fun v5 => DSl v5 fun x9a x9l x9c =>
     Ld h_12 ((Addr.mk b1 0 none).add 1) fun v6 => DI .i64 v6 fun x10 =>
     Al h_12 (.cells #[.int .u8 (IntKind.wrap .u8 x10)] 5) fun b3 h_16 =>
     RunH Tryz.prog (Builtin.append_ #[85, 85] 85 #[.slice x9a x9l x9c, .slice (some (Addr.mk b3 0 none)) 1 1]) h_16 fun r11 h_17 =>
     DSl r11 fun x11a x11l x11c =>
     StC h_17 ((Addr.mk b0 0 none).add 0) (.slice x11a x11l x11c) fun h_19 =>
     h_19[l_1]? = some (rec_0 .busy none) ∧ Q_0 (.bool true) (h_19.setIfInBounds l_1 (rec_0 .ready none))
    else
     (bif (x5 : Int) == 3 then
      Ld h_12 (Addr.mk b0 0 none) fun v7 => DSl v7 fun x12a x12l x12c =>
      Ld h_12 ((Addr.mk b1 0 none).add 2) fun v8 => DS v8 fun x13 =>
      CallsH Tryz.prog 199 [.string x13, .string ⟨#[0]⟩, .string ⟨#[0, 255]⟩] h_12 fun r13 h_20 =>
      DS r13 fun x14 =>
      (Ld h_20 (Addr.mk b0 0 none) fun v9 => DSl v9 fun x15a x15l x15c =>
      SameV (some (.slice x12a x12l x12c)) (.slice x15a x15l x15c)) ∧
      RunH Tryz.prog (Builtin.append_ #[85, 9] 85 #[.slice x12a x12l x12c, .string x14]) h_20 fun r14 h_21 =>
      DSl r14 fun x16a x16l x16c =>
      StC h_21 ((Addr.mk b0 0 none).add 0) (.slice x16a x16l x16c) fun h_23 =>
      Ld h_23 (Addr.mk b0 0 none) fun v10 => DSl v10 fun x17a x17l x17c =>
      Al h_23 (.cells #[.int .u8 0, .int .u8 0] 5) fun b4 h_24 =>
      RunH Tryz.prog (Builtin.append_ #[85, 85] 85 #[.slice x17a x17l x17c, .slice (some (Addr.mk b4 0 none)) 2 2]) h_24 fun r17 h_25 =>
      DSl r17 fun x18a x18l x18c =>
      StC h_25 ((Addr.mk b0 0 none).add 0) (.slice x18a x18l x18c) fun h_27 =>
      h_27[l_1]? = some (rec_0 .busy none) ∧ Q_0 (.bool true) (h_27.setIfInBounds l_1 (rec_0 .ready none))
     else
      h_12[l_1]? = some (rec_0 .busy none) ∧ Q_0 (.bool true) (h_12.setIfInBounds l_1 (rec_0 .ready none)))))) (fun pend0 h_28 =>
   pend0 = none ∧
   Ld h_28 (Addr.mk b0 0 none) fun v11 => DSl v11 fun x19a x19l x19c =>
   ∃ bs0 : ByteArray, BytesIn h_28 x19a x19l bs0 ∧
   h_28[h_2.size]? = some (.deferred (some [])) ∧
   Q (.tuple #[.string bs0, .int .i64 0]) (h_28.setIfInBounds h_2.size (.deferred none))))
theorem F132_eq : (fun (l_0a : Option Addr) (l_0l : Nat) (l_0c : Nat) (h : Heap) (Q : Value → Heap → Prop) => fnPT Tryz.prog Tryz.f132 (fun _ => annNil) (fun i => bif Nat.beq i 0 then [3, 84] else []) (fun i => bif Nat.beq i 13 then some ⟨[0, 0, 2, 6, 15, 31], 56⟩ else none) [.slice l_0a l_0l l_0c] h Q) = F132 := by kernel_rfl
theorem F132_ok {l_0a : Option Addr} {l_0l : Nat} {l_0c : Nat} {h : Heap} {Q : Value → Heap → Prop} (H : F132 l_0a l_0l l_0c h Q) : CallsH Tryz.prog 132 [.slice l_0a l_0l l_0c] h Q :=
 callsH_of (ann := fun _ => annNil) (tys := fun i => bif Nat.beq i 0 then [3, 84] else []) (pl := fun i => bif Nat.beq i 13 then some ⟨[0, 0, 2, 6, 15, 31], 56⟩ else none) Tryz.func132 (by kernel_rfl) (by have e := F132_eq; exact (congrFun (congrFun (congrFun (congrFun (congrFun (e) l_0a) l_0l) l_0c) h) Q).symm ▸ H)

/-- headgate/code.Rows -/
def F133 (l_0a : Option Addr) (l_0l : Nat) (l_0c : Nat) (h : Heap) (Q : Value → Heap → Prop) : Prop :=
 LoopH (fun again0 (s0 : Int) h_0 =>
  (bif decide ((s0 : Int) < (l_0l : Int)) then
   IdxA l_0a l_0l s0 1 fun a0 =>
   Ld h_0 a0 fun v0 => DSl v0 fun r0a r0l r0c =>
   CallsH Tryz.prog 123 [.slice r0a r0l r0c] h_0 fun r1 h_1 =>
   DB r1 fun x0 =>
   (bif !x0 then
    Q (.tuple #[.slice none 0 0, .int .i64 41]) h_1
   else
    again0 (IntKind.wrap .i64 (s0 + 1)) h_1)
  else
   CallsH Tryz.prog 200 [.slice l_0a l_0l l_0c, .func (.func 201) #[] #[]] h_0 fun r2 h_2 =>
   DSl r2 fun x1a x1l x1c =>
   CallsH Tryz.prog 135 [.slice x1a x1l x1c] h_2 fun r3 h_3 =>
   ∃ (x2a : Option Addr), ∃ (x2l : Nat), ∃ (x2c : Nat), ∃ (x3 : Int), r3 = .tuple #[.slice x2a x2l x2c, .int .i64 x3] ∧
   Q (.tuple #[.slice x2a x2l x2c, .int .i64 x3]) h_3)) 0 h
theorem F133_eq : (fun (l_0a : Option Addr) (l_0l : Nat) (l_0c : Nat) (h : Heap) (Q : Value → Heap → Prop) => fnPT Tryz.prog Tryz.f133 (fun i => bif Nat.beq i 0 then annOne 8 (codI .i64) else annNil) (fun _ => []) (fun _ => none) [.slice l_0a l_0l l_0c] h Q) = F133 := by kernel_rfl
theorem F133_ok {l_0a : Option Addr} {l_0l : Nat} {l_0c : Nat} {h : Heap} {Q : Value → Heap → Prop} (H : F133 l_0a l_0l l_0c h Q) : CallsH Tryz.prog 133 [.slice l_0a l_0l l_0c] h Q :=
 callsH_of (ann := fun i => bif Nat.beq i 0 then annOne 8 (codI .i64) else annNil) (tys := fun _ => []) (pl := fun _ => none) Tryz.func133 (by kernel_rfl) (by have e := F133_eq; exact (congrFun (congrFun (congrFun (congrFun (congrFun (e) l_0a) l_0l) l_0c) h) Q).symm ▸ H)

/-- headgate/crc.Of[string] -/
def F134 (b0 : ByteArray) (h : Heap) (Q : Value → Heap → Prop) : Prop :=
 CallsH Tryz.prog 204 [.int .u32 0, .string b0] h fun r0 h_0 =>
 DI .u32 r0 fun x0 =>
 Q (.int .u32 x0) h_0
theorem F134_eq : (fun (b0 : ByteArray) (h : Heap) (Q : Value → Heap → Prop) => fnPT Tryz.prog Tryz.f134 (fun _ => annNil) (fun _ => []) (fun _ => none) [.string b0] h Q) = F134 := by kernel_rfl
theorem F134_ok {b0 : ByteArray} {h : Heap} {Q : Value → Heap → Prop} (H : F134 b0 h Q) : CallsH Tryz.prog 134 [.string b0] h Q :=
 callsH_of (ann := fun _ => annNil) (tys := fun _ => []) (pl := fun _ => none) Tryz.func134 (by kernel_rfl) (by have e := F134_eq; exact (congrFun (congrFun (congrFun (e) b0) h) Q).symm ▸ H)

/-- headgate/code.told -/
def F135 (b0a : Option Addr) (b0l : Nat) (b0c : Nat) (h : Heap) (Q : Value → Heap → Prop) : Prop :=
 (bif decide (((b0l : Int) : Int) > 16777216) then
  Q (.tuple #[.slice none 0 0, .int .i64 42]) h
 else
  Q (.tuple #[.slice b0a b0l b0c, .int .i64 0]) h)
theorem F135_eq : (fun (b0a : Option Addr) (b0l : Nat) (b0c : Nat) (h : Heap) (Q : Value → Heap → Prop) => fnPT Tryz.prog Tryz.f135 (fun _ => annNil) (fun _ => []) (fun _ => none) [.slice b0a b0l b0c] h Q) = F135 := by kernel_rfl
theorem F135_ok {b0a : Option Addr} {b0l : Nat} {b0c : Nat} {h : Heap} {Q : Value → Heap → Prop} (H : F135 b0a b0l b0c h Q) : CallsH Tryz.prog 135 [.slice b0a b0l b0c] h Q :=
 callsH_of (ann := fun _ => annNil) (tys := fun _ => []) (pl := fun _ => none) Tryz.func135 (by kernel_rfl) (by have e := F135_eq; exact (congrFun (congrFun (congrFun (congrFun (congrFun (e) b0a) b0l) b0c) h) Q).symm ▸ H)

/-- headgate/code.List[headgate/api.Pair] -/
def F136 (l_0a : Option Addr) (l_0l : Nat) (l_0c : Nat) (one0 : Value) (h : Heap) (Q : Value → Heap → Prop) : Prop :=
 CallsH Tryz.prog 205 [.int .u64 (IntKind.wrap .u64 (l_0l : Int))] h fun r0 h_0 =>
 DSl r0 fun b0a b0l b0c =>
 LoopH (fun again0 (s0 : Sl × Int) h_1 =>
  (bif decide ((s0.2 : Int) < (l_0l : Int)) then
   IdxA l_0a l_0l s0.2 2 fun a0 =>
   Ld h_1 (a0.add 0) fun c0 =>
   Ld h_1 (a0.add 1) fun c1 =>
   ∃ (x0 : ByteArray), ∃ (x1 : ByteArray), (Value.agg #[c0, c1]) = .agg #[.string x0, .string x1] ∧
   Al h_1 (.cells #[.string .empty, .string .empty] 96) fun b1 h_2 =>
   StC h_2 ((Addr.mk b1 0 none).add 0) (.string x0) fun h_4 =>
   StC h_4 ((Addr.mk b1 0 none).add 1) (.string x1) fun h_5 =>
   Ld h_5 ((Addr.mk b1 0 none).add 0) fun c2 =>
   Ld h_5 ((Addr.mk b1 0 none).add 1) fun c3 =>
   ∃ (x2 : ByteArray), ∃ (x3 : ByteArray), (Value.agg #[c2, c3]) = .agg #[.string x2, .string x3] ∧
   CallV Tryz.prog one0 [.agg #[.string x2, .string x3]] h_5 fun r3 h_6 =>
   DSl r3 fun x4a x4l x4c =>
   RunH Tryz.prog (Builtin.append_ #[85, 85] 85 #[.slice s0.1.a s0.1.l s0.1.c, .slice x4a x4l x4c]) h_6 fun r4 h_7 =>
   DSl r4 fun b2a b2l b2c =>
   again0 (⟨b2a, b2l, b2c⟩, IntKind.wrap .i64 (s0.2 + 1)) h_7
  else
   Q (.slice s0.1.a s0.1.l s0.1.c) h_1)) (⟨b0a, b0l, b0c⟩, 0) h_0
theorem F136_eq : (fun (l_0a : Option Addr) (l_0l : Nat) (l_0c : Nat) (one0 : Value) (h : Heap) (Q : Value → Heap → Prop) => fnPT Tryz.prog Tryz.f136 (fun i => bif Nat.beq i 0 then annCons 5 (codSl) (annOne 14 (codI .i64)) else annNil) (fun _ => []) (fun _ => none) [.slice l_0a l_0l l_0c, one0] h Q) = F136 := by kernel_rfl
theorem F136_ok {l_0a : Option Addr} {l_0l : Nat} {l_0c : Nat} {one0 : Value} {h : Heap} {Q : Value → Heap → Prop} (H : F136 l_0a l_0l l_0c one0 h Q) : CallsH Tryz.prog 136 [.slice l_0a l_0l l_0c, one0] h Q :=
 callsH_of (ann := fun i => bif Nat.beq i 0 then annCons 5 (codSl) (annOne 14 (codI .i64)) else annNil) (tys := fun _ => []) (pl := fun _ => none) Tryz.func136 (by kernel_rfl) (by have e := F136_eq; exact (congrFun (congrFun (congrFun (congrFun (congrFun (congrFun (e) l_0a) l_0l) l_0c) one0) h) Q).symm ▸ H)

/-- headgate/code.Pairs$1 -/
def F137 (p0 : ByteArray) (p1 : ByteArray) (h : Heap) (Q : Value → Heap → Prop) : Prop :=
 Al h (.cells #[.string p0, .string p1] 96) fun b0 h_0 =>
 Ld h_0 ((Addr.mk b0 0 none).add 0) fun v0 => DS v0 fun x0 =>
 Ld h_0 ((Addr.mk b0 0 none).add 1) fun v1 => DS v1 fun x1 =>
 CallsH Tryz.prog 138 [.string x0] h_0 fun r1 h_1 =>
 DSl r1 fun x2a x2l x2c =>
 (SameV (some (.pointer (some ((Addr.mk b0 0 none).add 1)))) (.pointer (some ((Addr.mk b0 0 none).add 1)))) ∧
 (Ld h_1 ((Addr.mk b0 0 none).add 1) fun v2 => DS v2 fun x3 =>
 SameV (some (.string x1)) (.string x3)) ∧
 CallsH Tryz.prog 138 [.string x1] h_1 fun r2 h_2 =>
 DSl r2 fun x4a x4l x4c =>
 RunH Tryz.prog (Builtin.append_ #[85, 85] 85 #[.slice x2a x2l x2c, .slice x4a x4l x4c]) h_2 fun r3 h_3 =>
 DSl r3 fun x5a x5l x5c =>
 Q (.slice x5a x5l x5c) h_3
theorem F137_eq : (fun (p0 : ByteArray) (p1 : ByteArray) (h : Heap) (Q : Value → Heap → Prop) => fnPT Tryz.prog Tryz.f137 (fun _ => annNil) (fun _ => []) (fun i => bif Nat.beq i 1 then some ⟨[0, 1, 3, 0, 8, 31, 63, 127], 100⟩ else none) [.agg #[.string p0, .string p1]] h Q) = F137 := by kernel_rfl
theorem F137_ok {p0 : ByteArray} {p1 : ByteArray} {h : Heap} {Q : Value → Heap → Prop} (H : F137 p0 p1 h Q) : CallsH Tryz.prog 137 [.agg #[.string p0, .string p1]] h Q :=
 callsH_of (ann := fun _ => annNil) (tys := fun _ => []) (pl := fun i => bif Nat.beq i 1 then some ⟨[0, 1, 3, 0, 8, 31, 63, 127], 100⟩ else none) Tryz.func137 (by kernel_rfl) (by have e := F137_eq; exact (congrFun (congrFun (congrFun (congrFun (e) p0) p1) h) Q).symm ▸ H)

/-- headgate/code.word -/
def F138 (s0 : ByteArray) (h : Heap) (Q : Value → Heap → Prop) : Prop :=
 CallsH Tryz.prog 205 [.int .u64 (IntKind.wrap .u64 ((s0 : ByteArray).size : Int))] h fun r0 h_0 =>
 DSl r0 fun x0a x0l x0c =>
 RunH Tryz.prog (Builtin.append_ #[85, 9] 85 #[.slice x0a x0l x0c, .string s0]) h_0 fun r1 h_1 =>
 DSl r1 fun x1a x1l x1c =>
 Q (.slice x1a x1l x1c) h_1
theorem F138_eq : (fun (s0 : ByteArray) (h : Heap) (Q : Value → Heap → Prop) => fnPT Tryz.prog Tryz.f138 (fun _ => annNil) (fun _ => []) (fun _ => none) [.string s0] h Q) = F138 := by kernel_rfl
theorem F138_ok {s0 : ByteArray} {h : Heap} {Q : Value → Heap → Prop} (H : F138 s0 h Q) : CallsH Tryz.prog 138 [.string s0] h Q :=
 callsH_of (ann := fun _ => annNil) (tys := fun _ => []) (pl := fun _ => none) Tryz.func138 (by kernel_rfl) (by have e := F138_eq; exact (congrFun (congrFun (congrFun (e) s0) h) Q).symm ▸ H)

/-- bytes.Equal -/
def F141 (a0a : Option Addr) (a0l : Nat) (a0c : Nat) (b0a : Option Addr) (b0l : Nat) (b0c : Nat) (h : Heap) (Q : Value → Heap → Prop) : Prop :=
 ∃ bs0 : ByteArray, BytesIn h a0a a0l bs0 ∧
 ∃ bs1 : ByteArray, BytesIn h b0a b0l bs1 ∧
 Q (.bool (strEq bs0 bs1)) h
theorem F141_eq : (fun (a0a : Option Addr) (a0l : Nat) (a0c : Nat) (b0a : Option Addr) (b0l : Nat) (b0c : Nat) (h : Heap) (Q : Value → Heap → Prop) => fnPT Tryz.prog Tryz.f141 (fun _ => annNil) (fun _ => []) (fun _ => none) [.slice a0a a0l a0c, .slice b0a b0l b0c] h Q) = F141 := by kernel_rfl
theorem F141_ok {a0a : Option Addr} {a0l : Nat} {a0c : Nat} {b0a : Option Addr} {b0l : Nat} {b0c : Nat} {h : Heap} {Q : Value → Heap → Prop} (H : F141 a0a a0l a0c b0a b0l b0c h Q) : CallsH Tryz.prog 141 [.slice a0a a0l a0c, .slice b0a b0l b0c] h Q :=
 callsH_of (ann := fun _ => annNil) (tys := fun _ => []) (pl := fun _ => none) Tryz.func141 (by kernel_rfl) (by have e := F141_eq; exact (congrFun (congrFun (congrFun (congrFun (congrFun (congrFun (congrFun (congrFun (e) a0a) a0l) a0c) b0a) b0l) b0c) h) Q).symm ▸ H)

/-- (*headgate/metalog.Log).remove -/
def F142 (l_0 : Option Addr) (gone0f : Fn) (gone0p : Array Value) (gone0c : Array Value) (h : Heap) (Q : Value → Heap → Prop) : Prop :=
 Al h (.cells #[.pointer l_0] 87) fun b0 h_0 =>
 Al h_0 (.cells #[.func gone0f gone0p gone0c] 234) fun b1 h_1 =>
 Al h_1 (.cells #[.int .i64 0] 25) fun b2 h_2 =>
 Al h_2 (.cells #[.bool false] 4) fun b3 h_3 =>
 StC h_3 ((Addr.mk b3 0 none).add 0) (.bool false) fun h_5 =>
 Ld h_5 (Addr.mk b0 0 none) fun v0 => DP v0 fun x0 =>
 NN' x0 fun a0 =>
 Ld h_5 (a0.add 2) fun v1 => DM v1 fun x1 =>
 CallsH Tryz.prog 126 [.map x1] h_5 fun r5 h_6 =>
 ∃ (x2 : Value), r5 = x2 ∧
 RangeFn Tryz.prog x2 2 none h_6 (fun l_1 rec_0 args0 h_7 Q_0 =>
  ∃ (y0 : Int), ∃ (y1a : Option Addr), ∃ (y1l : Nat), ∃ (y1c : Nat), args0 = [.int .i64 y0, .slice y1a y1l y1c] ∧
  h_7[l_1]? = some (rec_0 .ready none) ∧
  Ld (h_7.setIfInBounds l_1 (rec_0 .busy none)) (Addr.mk b1 0 none) fun v2 => ∃ (x3 : Value), v2 = x3 ∧
  CallV Tryz.prog x3 [.int .u8 98, .int .i64 y0] (h_7.setIfInBounds l_1 (rec_0 .busy none)) fun r6 h_8 =>
  DB r6 fun x4 =>
  (bif x4 then
   Ld h_8 (Addr.mk b0 0 none) fun v3 => DP v3 fun x5 =>
   NN' x5 fun a1 =>
   Ld h_8 (a1.add 0) fun v4 => DP v4 fun x6 =>
   Ld h_8 (Addr.mk b0 0 none) fun v5 => DP v5 fun x7 =>
   NN' x7 fun a2 =>
   Ld h_8 (a2.add 1) fun v6 => DS v6 fun x8 =>
   CallsH Tryz.prog 35 [.int .i64 y0] h_8 fun r7 h_9 =>
   DS r7 fun x9 =>
   (Ld h_9 (Addr.mk b0 0 none) fun v7 => DP v7 fun x10 =>
   SameV (some (.pointer x5)) (.pointer x10)) ∧
   (NN' x5 fun a3 =>
   SameV (some (.pointer (some a1))) (.pointer (some a3))) ∧
   (SameV (some (.pointer (some (a1.add 0)))) (.pointer (some (a1.add 0)))) ∧
   (Ld h_9 (a1.add 0) fun v8 => DP v8 fun x11 =>
   SameV (some (.pointer x6)) (.pointer x11)) ∧
   (Ld h_9 (Addr.mk b0 0 none) fun v9 => DP v9 fun x12 =>
   SameV (some (.pointer x7)) (.pointer x12)) ∧
   (NN' x7 fun a4 =>
   SameV (some (.pointer (some a2))) (.pointer (some a4))) ∧
   (SameV (some (.pointer (some (a2.add 1)))) (.pointer (some (a2.add 1)))) ∧
   (Ld h_9 (a2.add 1) fun v10 => DS v10 fun x13 =>
   SameV (some (.string x8)) (.string x13)) ∧
   (⟨#[98, 46]⟩ : ByteArray).size + (x9 : ByteArray).size ≤ 9223372036854775807 ∧
   CallsH Tryz.prog 84 [.pointer x6, .string x8, .string (⟨#[98, 46]⟩ ++ x9)] h_9 fun r8 h_10 =>
   DI .i64 r8 fun e0 =>
   (bif (e0 : Int) != 0 then
    StC h_10 ((Addr.mk b2 0 none).add 0) (.int .i64 e0) fun h_12 =>
    h_12[l_1]? = some (rec_0 .busy none) ∧ Q_0 (.bool false) (h_12.setIfInBounds l_1 (rec_0 .done (some .ret)))
   else
    Ld h_10 (Addr.mk b0 0 none) fun v11 => DP v11 fun x14 =>
    NN' x14 fun a5 =>
    Ld h_10 (a5.add 2) fun v12 => DM v12 fun x15 =>
    RunH Tryz.prog (Builtin.delete_ #[214, 2] 0 #[.map x15, .int .i64 y0]) h_10 fun r10 h_13 =>
    StC h_13 ((Addr.mk b3 0 none).add 0) (.bool true) fun h_15 =>
    h_15[l_1]? = some (rec_0 .busy none) ∧ Q_0 (.bool true) (h_15.setIfInBounds l_1 (rec_0 .ready none)))
  else
   h_8[l_1]? = some (rec_0 .busy none) ∧ Q_0 (.bool true) (h_8.setIfInBounds l_1 (rec_0 .ready none)))) (fun pend0 h_16 =>
  (pend0 = none ∨ pend0 = some (.ret)) ∧
  (pend0 = none →
   Ld h_16 (Addr.mk b0 0 none) fun v13 => DP v13 fun x16 =>
   NN' x16 fun a6 =>
   Ld h_16 (a6.add 3) fun v14 => DM v14 fun x17 =>
   CallsH Tryz.prog 214 [.map x17] h_16 fun r12 h_17 =>
   ∃ (x18 : Value), r12 = x18 ∧
   RangeFn Tryz.prog x18 2 none h_17 (fun l_2 rec_1 args1 h_18 Q_1 =>
    ∃ (y2 : Int), ∃ (y3 : Bool), args1 = [.int .i64 y2, .bool y3] ∧
    h_18[l_2]? = some (rec_1 .ready none) ∧
    Ld (h_18.setIfInBounds l_2 (rec_1 .busy none)) (Addr.mk b1 0 none) fun v15 => ∃ (x19 : Value), v15 = x19 ∧
    CallV Tryz.prog x19 [.int .u8 102, .int .i64 y2] (h_18.setIfInBounds l_2 (rec_1 .busy none)) fun r13 h_19 =>
    DB r13 fun x20 =>
    (bif x20 then
     Ld h_19 (Addr.mk b0 0 none) fun v16 => DP v16 fun x21 =>
     NN' x21 fun a7 =>
     Ld h_19 (a7.add 0) fun v17 => DP v17 fun x22 =>
     Ld h_19 (Addr.mk b0 0 none) fun v18 => DP v18 fun x23 =>
     NN' x23 fun a8 =>
     Ld h_19 (a8.add 1) fun v19 => DS v19 fun x24 =>
     CallsH Tryz.prog 35 [.int .i64 y2] h_19 fun r14 h_20 =>
     DS r14 fun x25 =>
     (Ld h_20 (Addr.mk b0 0 none) fun v20 => DP v20 fun x26 =>
     SameV (some (.pointer x21)) (.pointer x26)) ∧
     (NN' x21 fun a9 =>
     SameV (some (.pointer (some a7))) (.pointer (some a9))) ∧
     (SameV (some (.pointer (some (a7.add 0)))) (.pointer (some (a7.add 0)))) ∧
     (Ld h_20 (a7.add 0) fun v21 => DP v21 fun x27 =>
     SameV (some (.pointer x22)) (.pointer x27)) ∧
     (Ld h_20 (Addr.mk b0 0 none) fun v22 => DP v22 fun x28 =>
     SameV (some (.pointer x23)) (.pointer x28)) ∧
     (NN' x23 fun a10 =>
     SameV (some (.pointer (some a8))) (.pointer (some a10))) ∧
     (SameV (some (.pointer (some (a8.add 1)))) (.pointer (some (a8.add 1)))) ∧
     (Ld h_20 (a8.add 1) fun v23 => DS v23 fun x29 =>
     SameV (some (.string x24)) (.string x29)) ∧
     (⟨#[102, 46]⟩ : ByteArray).size + (x25 : ByteArray).size ≤ 9223372036854775807 ∧
     CallsH Tryz.prog 84 [.pointer x22, .string x24, .string (⟨#[102, 46]⟩ ++ x25)] h_20 fun r15 h_21 =>
     DI .i64 r15 fun e1 =>
     (bif (e1 : Int) != 0 then
      StC h_21 ((Addr.mk b2 0 none).add 0) (.int .i64 e1) fun h_23 =>
      h_23[l_2]? = some (rec_1 .busy none) ∧ Q_1 (.bool false) (h_23.setIfInBounds l_2 (rec_1 .done (some .ret)))
     else
      Ld h_21 (Addr.mk b0 0 none) fun v24 => DP v24 fun x30 =>
      NN' x30 fun a11 =>
      Ld h_21 (a11.add 3) fun v25 => DM v25 fun x31 =>
      RunH Tryz.prog (Builtin.delete_ #[219, 2] 0 #[.map x31, .int .i64 y2]) h_21 fun r17 h_24 =>
      StC h_24 ((Addr.mk b3 0 none).add 0) (.bool true) fun h_26 =>
      h_26[l_2]? = some (rec_1 .busy none) ∧ Q_1 (.bool true) (h_26.setIfInBounds l_2 (rec_1 .ready none)))
    else
     h_19[l_2]? = some (rec_1 .busy none) ∧ Q_1 (.bool true) (h_19.setIfInBounds l_2 (rec_1 .ready none)))) (fun pend1 h_27 =>
    (pend1 = none ∨ pend1 = some (.ret)) ∧
    (pend1 = none →
     Ld h_27 (Addr.mk b3 0 none) fun v26 => DB v26 fun x32 =>
     (bif x32 then
      Ld h_27 (Addr.mk b0 0 none) fun v27 => DP v27 fun x33 =>
      NN' x33 fun a12 =>
      Ld h_27 (a12.add 0) fun v28 => DP v28 fun x34 =>
      Ld h_27 (Addr.mk b0 0 none) fun v29 => DP v29 fun x35 =>
      NN' x35 fun a13 =>
      Ld h_27 (a13.add 1) fun v30 => DS v30 fun x36 =>
      CallsH Tryz.prog 82 [.pointer x34, .string x36] h_27 fun r19 h_28 =>
      DI .i64 r19 fun x37 =>
      StC h_28 ((Addr.mk b2 0 none).add 0) (.int .i64 x37) fun h_30 =>
      h_30[h_17.size]? = some (.deferred (some [])) ∧
      (h_30.setIfInBounds h_17.size (.deferred none))[h_6.size]? = some (.deferred (some [])) ∧
      Ld ((h_30.setIfInBounds h_17.size (.deferred none)).setIfInBounds h_6.size (.deferred none)) (Addr.mk b2 0 none) fun v31 => DI .i64 v31 fun res0 =>
      Q (.int .i64 res0) ((h_30.setIfInBounds h_17.size (.deferred none)).setIfInBounds h_6.size (.deferred none))
     else
      StC h_27 ((Addr.mk b2 0 none).add 0) (.int .i64 0) fun h_32 =>
      h_32[h_17.size]? = some (.deferred (some [])) ∧
      (h_32.setIfInBounds h_17.size (.deferred none))[h_6.size]? = some (.deferred (some [])) ∧
      Ld ((h_32.setIfInBounds h_17.size (.deferred none)).setIfInBounds h_6.size (.deferred none)) (Addr.mk b2 0 none) fun v32 => DI .i64 v32 fun res1 =>
      Q (.int .i64 res1) ((h_32.setIfInBounds h_17.size (.deferred none)).setIfInBounds h_6.size (.deferred none)))) ∧
    (pend1 = some (.ret) →
     h_27[h_17.size]? = some (.deferred (some [])) ∧
     (h_27.setIfInBounds h_17.size (.deferred none))[h_6.size]? = some (.deferred (some [])) ∧
     Ld ((h_27.setIfInBounds h_17.size (.deferred none)).setIfInBounds h_6.size (.deferred none)) (Addr.mk b2 0 none) fun v33 => DI .i64 v33 fun res2 =>
     Q (.int .i64 res2) ((h_27.setIfInBounds h_17.size (.deferred none)).setIfInBounds h_6.size (.deferred none))))) ∧
  (pend0 = some (.ret) →
   h_16[h_6.size]? = some (.deferred (some [])) ∧
   Ld (h_16.setIfInBounds h_6.size (.deferred none)) (Addr.mk b2 0 none) fun v34 => DI .i64 v34 fun res3 =>
   Q (.int .i64 res3) (h_16.setIfInBounds h_6.size (.deferred none))))
theorem F142_eq : (fun (l_0 : Option Addr) (gone0f : Fn) (gone0p : Array Value) (gone0c : Array Value) (h : Heap) (Q : Value → Heap → Prop) => fnPT Tryz.prog Tryz.f142 (fun _ => annNil) (fun i => bif Nat.beq i 0 then [2, 85] else bif Nat.beq i 2 then [2, 4] else []) (fun i => bif Nat.beq i 5 then some ⟨[0, 1, 3, 7, 0, 16, 48, 112, 0, 256, 768, 2047, 4095], 2560⟩ else bif Nat.beq i 13 then some ⟨[0, 1, 3, 7, 0, 16, 48, 112, 0, 256, 768, 2047, 4095], 2560⟩ else bif Nat.beq i 19 then some ⟨[0, 1, 3, 7, 0, 16, 48, 112, 255, 511], 768⟩ else none) [.pointer l_0, .func gone0f gone0p gone0c] h Q) = F142 := by kernel_rfl
theorem F142_ok {l_0 : Option Addr} {gone0f : Fn} {gone0p : Array Value} {gone0c : Array Value} {h : Heap} {Q : Value → Heap → Prop} (H : F142 l_0 gone0f gone0p gone0c h Q) : CallsH Tryz.prog 142 [.pointer l_0, .func gone0f gone0p gone0c] h Q :=
 callsH_of (ann := fun _ => annNil) (tys := fun i => bif Nat.beq i 0 then [2, 85] else bif Nat.beq i 2 then [2, 4] else []) (pl := fun i => bif Nat.beq i 5 then some ⟨[0, 1, 3, 7, 0, 16, 48, 112, 0, 256, 768, 2047, 4095], 2560⟩ else bif Nat.beq i 13 then some ⟨[0, 1, 3, 7, 0, 16, 48, 112, 0, 256, 768, 2047, 4095], 2560⟩ else bif Nat.beq i 19 then some ⟨[0, 1, 3, 7, 0, 16, 48, 112, 255, 511], 768⟩ else none) Tryz.func142 (by kernel_rfl) (by have e := F142_eq; exact (congrFun (congrFun (congrFun (congrFun (congrFun (congrFun (e) l_0) gone0f) gone0p) gone0c) h) Q).symm ▸ H)

/-- (*headgate/metalog.Log).Fold$1 -/
def F143 (c0 : Int) (n0 : Int) (c1 : Addr) (h : Heap) (Q : Value → Heap → Prop) : Prop :=
 (bif (c0 : Int) == 98 then
  Ld h c1 fun v0 => DI .i64 v0 fun x0 =>
  (bif decide ((n0 : Int) ≤ x0) then
   Q (.bool true) h
  else
   (bif (c0 : Int) == 102 then
    Ld h c1 fun v1 => DI .i64 v1 fun x1 =>
    Q (.bool ((n0 : Int) != x1)) h
   else
    Q (.bool false) h))
 else
  (bif (c0 : Int) == 102 then
   Ld h c1 fun v2 => DI .i64 v2 fun x2 =>
   Q (.bool ((n0 : Int) != x2)) h
  else
   Q (.bool false) h))
theorem F143_eq : (fun (c0 : Int) (n0 : Int) (c1 : Addr) (h : Heap) (Q : Value → Heap → Prop) => fnPT Tryz.prog Tryz.f143 (fun _ => annNil) (fun _ => []) (fun _ => none) [.int .u8 c0, .int .i64 n0, .pointer (some c1)] h Q) = F143 := by kernel_rfl
theorem F143_ok {c0 : Int} {n0 : Int} {c1 : Addr} {h : Heap} {Q : Value → Heap → Prop} (H : F143 c0 n0 c1 h Q) : CallsH Tryz.prog 143 [.int .u8 c0, .int .i64 n0, .pointer (some c1)] h Q :=
 callsH_of (ann := fun _ => annNil) (tys := fun _ => []) (pl := fun _ => none) Tryz.func143 (by kernel_rfl) (by have e := F143_eq; exact (congrFun (congrFun (congrFun (congrFun (congrFun (e) c0) n0) c1) h) Q).symm ▸ H)

/-- headgate/headgateref03.CmpRow -/
def F148 (a0a : Option Addr) (a0l : Nat) (a0c : Nat) (b0a : Option Addr) (b0l : Nat) (b0c : Nat) (h : Heap) (Q : Value → Heap → Prop) : Prop :=
 LoopH (fun again0 (s0 : Int) h_0 =>
  (bif decide ((s0 : Int) < (a0l : Int)) then
   (bif decide ((s0 : Int) ≥ (b0l : Int)) then
    Q (.int .i64 1) h_0
   else
    IdxA a0a a0l s0 3 fun a1 =>
    Ld h_0 (a1.add 0) fun c0 =>
    Ld h_0 (a1.add 1) fun c1 =>
    Ld h_0 (a1.add 2) fun c2 =>
    ∃ (x0 : Int), ∃ (x1 : Int), ∃ (x2 : ByteArray), (Value.agg #[c0, c1, c2]) = .agg #[.int .i64 x0, .int .i64 x1, .string x2] ∧
    IdxA b0a b0l s0 3 fun a2 =>
    Ld h_0 (a2.add 0) fun c3 =>
    Ld h_0 (a2.add 1) fun c4 =>
    Ld h_0 (a2.add 2) fun c5 =>
    ∃ (x3 : Int), ∃ (x4 : Int), ∃ (x5 : ByteArray), (Value.agg #[c3, c4, c5]) = .agg #[.int .i64 x3, .int .i64 x4, .string x5] ∧
    CallsH Tryz.prog 219 [.agg #[.int .i64 x0, .int .i64 x1, .string x2], .agg #[.int .i64 x3, .int .i64 x4, .string x5]] h_0 fun r0 h_1 =>
    DI .i64 r0 fun c6 =>
    (bif (c6 : Int) != 0 then
     Q (.int .i64 c6) h_1
    else
     again0 (IntKind.wrap .i64 (s0 + 1)) h_1))
  else
   (bif decide (((a0l : Int) : Int) < (b0l : Int)) then
    Q (.int .i64 (-1)) h_0
   else
    Q (.int .i64 0) h_0))) 0 h
theorem F148_eq : (fun (a0a : Option Addr) (a0l : Nat) (a0c : Nat) (b0a : Option Addr) (b0l : Nat) (b0c : Nat) (h : Heap) (Q : Value → Heap → Prop) => fnPT Tryz.prog Tryz.f148 (fun i => bif Nat.beq i 0 then annOne 5 (codI .i64) else annNil) (fun _ => []) (fun i => bif Nat.beq i 6 then some ⟨[0, 0, 3, 7, 0, 0, 48, 112, 255, 511], 256⟩ else none) [.slice a0a a0l a0c, .slice b0a b0l b0c] h Q) = F148 := by kernel_rfl
theorem F148_ok {a0a : Option Addr} {a0l : Nat} {a0c : Nat} {b0a : Option Addr} {b0l : Nat} {b0c : Nat} {h : Heap} {Q : Value → Heap → Prop} (H : F148 a0a a0l a0c b0a b0l b0c h Q) : CallsH Tryz.prog 148 [.slice a0a a0l a0c, .slice b0a b0l b0c] h Q :=
 callsH_of (ann := fun i => bif Nat.beq i 0 then annOne 5 (codI .i64) else annNil) (tys := fun _ => []) (pl := fun i => bif Nat.beq i 6 then some ⟨[0, 0, 3, 7, 0, 0, 48, 112, 255, 511], 256⟩ else none) Tryz.func148 (by kernel_rfl) (by have e := F148_eq; exact (congrFun (congrFun (congrFun (congrFun (congrFun (congrFun (congrFun (congrFun (e) a0a) a0l) a0c) b0a) b0l) b0c) h) Q).symm ▸ H)

/-- (*headgate/code.reader).num -/
def F183 (r0 : Option Addr) (h : Heap) (Q : Value → Heap → Prop) : Prop :=
 NN' r0 fun a0 =>
 Ld h (a0.add 0) fun v0 => DSl v0 fun x0a x0l x0c =>
 CallsH Tryz.prog 228 [.slice x0a x0l x0c] h fun r1 h_0 =>
 ∃ (x1 : Int), ∃ (x2 : Int), ∃ (x3 : Int), r1 = .tuple #[.int .u64 x1, .int .i64 x2, .int .i64 x3] ∧
 (bif (x3 : Int) != 0 then
  False
  
 else
  NN' r0 fun a1 =>
  Ld h_0 (a1.add 0) fun v1 => DSl v1 fun x4a x4l x4c =>
  SlV x4a x4c 1 x2 (x4l : Int) (x4c : Int) fun s0a s0l s0c =>
  NN' r0 fun a2 =>
  StC h_0 ((a2.add 0).add 0) (.slice s0a s0l s0c) fun h_3 =>
  Q (.int .u64 x1) h_3)
theorem F183_eq : (fun (r0 : Option Addr) (h : Heap) (Q : Value → Heap → Prop) => fnPT Tryz.prog Tryz.f183 (fun _ => annNil) (fun _ => []) (fun _ => none) [.pointer r0] h Q) = F183 := by kernel_rfl
theorem F183_ok {r0 : Option Addr} {h : Heap} {Q : Value → Heap → Prop} (H : F183 r0 h Q) : CallsH Tryz.prog 183 [.pointer r0] h Q :=
 callsH_of (ann := fun _ => annNil) (tys := fun _ => []) (pl := fun _ => none) Tryz.func183 (by kernel_rfl) (by have e := F183_eq; exact (congrFun (congrFun (congrFun (e) r0) h) Q).symm ▸ H)

/-- (*headgate/code.reader).some -/
def F184 (r0 : Option Addr) (n0 : Int) (h : Heap) (Q : Value → Heap → Prop) : Prop :=
 NN' r0 fun a0 =>
 Ld h (a0.add 0) fun v0 => DSl v0 fun x0a x0l x0c =>
 (bif decide ((n0 : Int) > (IntKind.wrap .u64 (x0l : Int))) then
  False
  
 else
  NN' r0 fun a1 =>
  Ld h (a1.add 0) fun v1 => DSl v1 fun x1a x1l x1c =>
  SlV x1a x1c 1 0 n0 (x1c : Int) fun s0a s0l s0c =>
  NN' r0 fun a2 =>
  Ld h (a2.add 0) fun v2 => DSl v2 fun x2a x2l x2c =>
  SlV x2a x2c 1 n0 (x2l : Int) (x2c : Int) fun s1a s1l s1c =>
  NN' r0 fun a3 =>
  StC h ((a3.add 0).add 0) (.slice s1a s1l s1c) fun h_2 =>
  Q (.slice s0a s0l s0c) h_2)
theorem F184_eq : (fun (r0 : Option Addr) (n0 : Int) (h : Heap) (Q : Value → Heap → Prop) => fnPT Tryz.prog Tryz.f184 (fun _ => annNil) (fun _ => []) (fun _ => none) [.pointer r0, .int .u64 n0] h Q) = F184 := by kernel_rfl
theorem F184_ok {r0 : Option Addr} {n0 : Int} {h : Heap} {Q : Value → Heap → Prop} (H : F184 r0 n0 h Q) : CallsH Tryz.prog 184 [.pointer r0, .int .u64 n0] h Q :=
 callsH_of (ann := fun _ => annNil) (tys := fun _ => []) (pl := fun _ => none) Tryz.func184 (by kernel_rfl) (by have e := F184_eq; exact (congrFun (congrFun (congrFun (congrFun (e) r0) n0) h) Q).symm ▸ H)

/-- (*headgate/code.reader).byte -/
def F188 (r0 : Option Addr) (h : Heap) (Q : Value → Heap → Prop) : Prop :=
 CallsH Tryz.prog 184 [.pointer r0, .int .u64 1] h fun r1 h_0 =>
 DSl r1 fun x0a x0l x0c =>
 IdxA x0a x0l 0 1 fun a0 =>
 Ld h_0 a0 fun v0 => DI .u8 v0 fun x1 =>
 Q (.int .u8 x1) h_0
theorem F188_eq : (fun (r0 : Option Addr) (h : Heap) (Q : Value → Heap → Prop) => fnPT Tryz.prog Tryz.f188 (fun _ => annNil) (fun _ => []) (fun _ => none) [.pointer r0] h Q) = F188 := by kernel_rfl
theorem F188_ok {r0 : Option Addr} {h : Heap} {Q : Value → Heap → Prop} (H : F188 r0 h Q) : CallsH Tryz.prog 188 [.pointer r0] h Q :=
 callsH_of (ann := fun _ => annNil) (tys := fun _ => []) (pl := fun _ => none) Tryz.func188 (by kernel_rfl) (by have e := F188_eq; exact (congrFun (congrFun (congrFun (e) r0) h) Q).symm ▸ H)

/-- (*headgate/code.reader).whole -/
def F189 (r0 : Option Addr) (h : Heap) (Q : Value → Heap → Prop) : Prop :=
 CallsH Tryz.prog 183 [.pointer r0] h fun r1 h_0 =>
 DI .u64 r1 fun n0 =>
 0 ≤ (1 : Int) ∧
 Q (.int .i64 (bitsI .xor .i64 (IntKind.wrap .i64 (shrI .u64 n0 1)) (IntKind.wrap .i64 (0 - (IntKind.wrap .i64 (bitsI .and .u64 n0 1)))))) h_0
theorem F189_eq : (fun (r0 : Option Addr) (h : Heap) (Q : Value → Heap → Prop) => fnPT Tryz.prog Tryz.f189 (fun _ => annNil) (fun _ => []) (fun _ => none) [.pointer r0] h Q) = F189 := by kernel_rfl
theorem F189_ok {r0 : Option Addr} {h : Heap} {Q : Value → Heap → Prop} (H : F189 r0 h Q) : CallsH Tryz.prog 189 [.pointer r0] h Q :=
 callsH_of (ann := fun _ => annNil) (tys := fun _ => []) (pl := fun _ => none) Tryz.func189 (by kernel_rfl) (by have e := F189_eq; exact (congrFun (congrFun (congrFun (e) r0) h) Q).symm ▸ H)

/-- headgate/value.Check -/
def F190 (v0 : Int) (v1 : Int) (v2 : ByteArray) (h : Heap) (Q : Value → Heap → Prop) : Prop :=
 Al h (.cells #[.int .i64 v0, .int .i64 v1, .string v2] 84) fun b0 h_0 =>
 Ld h_0 ((Addr.mk b0 0 none).add 0) fun v3 => DI .i64 v3 fun x0 =>
 (bif (x0 : Int) == 0 then
  Ld h_0 ((Addr.mk b0 0 none).add 1) fun v4 => DI .i64 v4 fun x1 =>
  (bif !((x1 : Int) == 0) then
   Q (.int .i64 31) h_0
  else
   Ld h_0 ((Addr.mk b0 0 none).add 0) fun v5 => DI .i64 v5 fun x2 =>
   (bif (x2 : Int) != 3 then
    Ld h_0 ((Addr.mk b0 0 none).add 2) fun v6 => DS v6 fun x3 =>
    (bif !strEq x3 .empty then
     Q (.int .i64 31) h_0
    else
     Q (.int .i64 0) h_0)
   else
    Q (.int .i64 0) h_0))
 else
  (bif (x0 : Int) == 1 then
   Ld h_0 ((Addr.mk b0 0 none).add 0) fun v7 => DI .i64 v7 fun x4 =>
   (bif (x4 : Int) != 3 then
    Ld h_0 ((Addr.mk b0 0 none).add 2) fun v8 => DS v8 fun x5 =>
    (bif !strEq x5 .empty then
     Q (.int .i64 31) h_0
    else
     Q (.int .i64 0) h_0)
   else
    Q (.int .i64 0) h_0)
  else
   (bif (x0 : Int) == 2 then
    Ld h_0 ((Addr.mk b0 0 none).add 1) fun v9 => DI .i64 v9 fun x6 =>
    (bif (x6 : Int) == 0 then
     Ld h_0 ((Addr.mk b0 0 none).add 0) fun v10 => DI .i64 v10 fun x7 =>
     (bif (x7 : Int) != 3 then
      Ld h_0 ((Addr.mk b0 0 none).add 2) fun v11 => DS v11 fun x8 =>
      (bif !strEq x8 .empty then
       Q (.int .i64 31) h_0
      else
       Q (.int .i64 0) h_0)
     else
      Q (.int .i64 0) h_0)
    else
     Ld h_0 ((Addr.mk b0 0 none).add 1) fun v12 => DI .i64 v12 fun x9 =>
     (bif !((x9 : Int) == 1) then
      Q (.int .i64 31) h_0
     else
      Ld h_0 ((Addr.mk b0 0 none).add 0) fun v13 => DI .i64 v13 fun x10 =>
      (bif (x10 : Int) != 3 then
       Ld h_0 ((Addr.mk b0 0 none).add 2) fun v14 => DS v14 fun x11 =>
       (bif !strEq x11 .empty then
        Q (.int .i64 31) h_0
       else
        Q (.int .i64 0) h_0)
      else
       Q (.int .i64 0) h_0)))
   else
    (bif (x0 : Int) == 3 then
     Ld h_0 ((Addr.mk b0 0 none).add 1) fun v15 => DI .i64 v15 fun x12 =>
     (bif (x12 : Int) == 0 then
      Ld h_0 ((Addr.mk b0 0 none).add 2) fun v16 => DS v16 fun x13 =>
      (bif !(decide ((((x13 : ByteArray).size : Int) : Int) ≤ 200)) then
       Q (.int .i64 31) h_0
      else
       Ld h_0 ((Addr.mk b0 0 none).add 0) fun v17 => DI .i64 v17 fun x14 =>
       (bif (x14 : Int) != 3 then
        Ld h_0 ((Addr.mk b0 0 none).add 2) fun v18 => DS v18 fun x15 =>
        (bif !strEq x15 .empty then
         Q (.int .i64 31) h_0
        else
         Q (.int .i64 0) h_0)
       else
        Q (.int .i64 0) h_0))
     else
      Q (.int .i64 31) h_0)
    else
     Q (.int .i64 30) h_0))))
theorem F190_eq : (fun (v0 : Int) (v1 : Int) (v2 : ByteArray) (h : Heap) (Q : Value → Heap → Prop) => fnPT Tryz.prog Tryz.f190 (fun _ => annNil) (fun _ => []) (fun _ => none) [.agg #[.int .i64 v0, .int .i64 v1, .string v2]] h Q) = F190 := by kernel_rfl
theorem F190_ok {v0 : Int} {v1 : Int} {v2 : ByteArray} {h : Heap} {Q : Value → Heap → Prop} (H : F190 v0 v1 v2 h Q) : CallsH Tryz.prog 190 [.agg #[.int .i64 v0, .int .i64 v1, .string v2]] h Q :=
 callsH_of (ann := fun _ => annNil) (tys := fun _ => []) (pl := fun _ => none) Tryz.func190 (by kernel_rfl) (by have e := F190_eq; exact (congrFun (congrFun (congrFun (congrFun (congrFun (e) v0) v1) v2) h) Q).symm ▸ H)

/-- maps.Copy[headgate/metalog.table[[]byte],headgate/metalog.table[[]byte],int64,[]byte] -/
def F192 (dst0 : Option Nat) (src0 : Option Nat) (h : Heap) (Q : Value → Heap → Prop) : Prop :=
 RunH Tryz.prog (Instr.range 214 (.map src0)) h fun r0 h_0 =>
 DP r0 fun p0 =>
 LoopH (fun again0 (s0 : Unit) h_1 =>
  RunH Tryz.prog (Instr.next (.pointer p0) false 0) h_1 fun r1 h_2 =>
  (
   r1 = .tuple #[.bool false] ∧
   Q (.tuple #[]) h_2) ∨ (
   ∃ (k0 x0 : Value), r1 = .tuple #[.bool true, k0, x0] ∧
   RunH Tryz.prog (Instr.entry (.pointer p0)) h_2 fun r2 h_3 =>
   ∃ (x1 : Int), ∃ (x2a : Option Addr), ∃ (x2l : Nat), ∃ (x2c : Nat), r2 = .tuple #[.int .i64 x1, .slice x2a x2l x2c] ∧
   RunU Tryz.prog (Instr.mapUpdate 214 (.map dst0) (.int .i64 x1) (.slice x2a x2l x2c)) h_3 fun h_4 =>
   again0 () h_4)) () h_0
theorem F192_eq : (fun (dst0 : Option Nat) (src0 : Option Nat) (h : Heap) (Q : Value → Heap → Prop) => fnPT Tryz.prog Tryz.f192 (fun i => bif Nat.beq i 0 then annNil else annNil) (fun i => bif Nat.beq i 1002 then [2, 85] else []) (fun _ => none) [.map dst0, .map src0] h Q) = F192 := by kernel_rfl
theorem F192_ok {dst0 : Option Nat} {src0 : Option Nat} {h : Heap} {Q : Value → Heap → Prop} (H : F192 dst0 src0 h Q) : CallsH Tryz.prog 192 [.map dst0, .map src0] h Q :=
 callsH_of (ann := fun i => bif Nat.beq i 0 then annNil else annNil) (tys := fun i => bif Nat.beq i 1002 then [2, 85] else []) (pl := fun _ => none) Tryz.func192 (by kernel_rfl) (by have e := F192_eq; exact (congrFun (congrFun (congrFun (congrFun (e) dst0) src0) h) Q).symm ▸ H)

/-- slices.Sorted[int64] -/
def F193 (seq0 : Value) (h : Heap) (Q : Value → Heap → Prop) : Prop :=
 CallsH Tryz.prog 231 [seq0] h fun r0 h_0 =>
 DSl r0 fun s0a s0l s0c =>
 CallsH Tryz.prog 232 [.slice s0a s0l s0c] h_0 fun r1 h_1 =>
 r1 = .tuple #[] ∧
 Q (.slice s0a s0l s0c) h_1
theorem F193_eq : (fun (seq0 : Value) (h : Heap) (Q : Value → Heap → Prop) => fnPT Tryz.prog Tryz.f193 (fun _ => annNil) (fun _ => []) (fun _ => none) [seq0] h Q) = F193 := by kernel_rfl
theorem F193_ok {seq0 : Value} {h : Heap} {Q : Value → Heap → Prop} (H : F193 seq0 h Q) : CallsH Tryz.prog 193 [seq0] h Q :=
 callsH_of (ann := fun _ => annNil) (tys := fun _ => []) (pl := fun _ => none) Tryz.func193 (by kernel_rfl) (by have e := F193_eq; exact (congrFun (congrFun (congrFun (e) seq0) h) Q).symm ▸ H)

/-- maps.Keys[headgate/metalog.table[[]byte],int64,[]byte] -/
def F194 (m0 : Option Nat) (h : Heap) (Q : Value → Heap → Prop) : Prop :=
 Al h (.cells #[.map m0] 214) fun b0 h_0 =>
 Q (.func (.func 233) #[] #[.pointer (some (Addr.mk b0 0 none))]) h_0
theorem F194_eq : (fun (m0 : Option Nat) (h : Heap) (Q : Value → Heap → Prop) => fnPT Tryz.prog Tryz.f194 (fun _ => annNil) (fun _ => []) (fun _ => none) [.map m0] h Q) = F194 := by kernel_rfl
theorem F194_ok {m0 : Option Nat} {h : Heap} {Q : Value → Heap → Prop} (H : F194 m0 h Q) : CallsH Tryz.prog 194 [.map m0] h Q :=
 callsH_of (ann := fun _ => annNil) (tys := fun _ => []) (pl := fun _ => none) Tryz.func194 (by kernel_rfl) (by have e := F194_eq; exact (congrFun (congrFun (congrFun (e) m0) h) Q).symm ▸ H)

/-- (headgate/metalog.table[[]byte]).rising$1 -/
def F195 (yield0 : Value) (c0 : Addr) (c1 : Addr) (h : Heap) (Q : Value → Heap → Prop) : Prop :=
 Ld h c0 fun v0 => DSl v0 fun x0a x0l x0c =>
 LoopH (fun again0 (s0 : Int) h_0 =>
  (bif decide ((s0 : Int) < (x0l : Int)) then
   IdxA x0a x0l s0 1 fun a0 =>
   Ld h_0 a0 fun v1 => DI .i64 v1 fun k0 =>
   Ld h_0 c1 fun v2 => DM v2 fun x1 =>
   ∃ es0, mapEs h_0 x1 es0 ∧ ∃ f0, Instr.findNow (.int .i64) (.int .i64 k0) (es0 : Array MapEntry).toList 0 = some f0 ∧
   DSl ((Option.map (fun x => x.2) f0).getD (.slice none 0 0)) fun x2a x2l x2c =>
   CallV Tryz.prog yield0 [.int .i64 k0, .slice x2a x2l x2c] h_0 fun r0 h_1 =>
   DB r0 fun x3 =>
   (bif !x3 then
    Q (.tuple #[]) h_1
   else
    again0 (IntKind.wrap .i64 (s0 + 1)) h_1)
  else
   Q (.tuple #[]) h_0)) 0 h
theorem F195_eq : (fun (yield0 : Value) (c0 : Addr) (c1 : Addr) (h : Heap) (Q : Value → Heap → Prop) => fnPT Tryz.prog Tryz.f195 (fun i => bif Nat.beq i 0 then annOne 8 (codI .i64) else annNil) (fun _ => []) (fun _ => none) [yield0, .pointer (some c0), .pointer (some c1)] h Q) = F195 := by kernel_rfl
theorem F195_ok {yield0 : Value} {c0 : Addr} {c1 : Addr} {h : Heap} {Q : Value → Heap → Prop} (H : F195 yield0 c0 c1 h Q) : CallsH Tryz.prog 195 [yield0, .pointer (some c0), .pointer (some c1)] h Q :=
 callsH_of (ann := fun i => bif Nat.beq i 0 then annOne 8 (codI .i64) else annNil) (tys := fun _ => []) (pl := fun _ => none) Tryz.func195 (by kernel_rfl) (by have e := F195_eq; exact (congrFun (congrFun (congrFun (congrFun (congrFun (e) yield0) c0) c1) h) Q).symm ▸ H)

/-- headgate/value.All -/
def F197 (l_0a : Option Addr) (l_0l : Nat) (l_0c : Nat) (h : Heap) (Q : Value → Heap → Prop) : Prop :=
 RunH Tryz.prog (Builtin.append_ #[81, 81] 81 #[.slice none 0 0, .slice l_0a l_0l l_0c]) h fun r0 h_0 =>
 DSl r0 fun x0a x0l x0c =>
 Al h_0 (.cells #[.slice none 0 0] 81) fun b0 h_1 =>
 StC h_1 ((Addr.mk b0 0 none).add 0) (.slice x0a x0l x0c) fun h_3 =>
 Q (.func (.func 235) #[] #[.pointer (some (Addr.mk b0 0 none))]) h_3
theorem F197_eq : (fun (l_0a : Option Addr) (l_0l : Nat) (l_0c : Nat) (h : Heap) (Q : Value → Heap → Prop) => fnPT Tryz.prog Tryz.f197 (fun _ => annNil) (fun _ => []) (fun _ => none) [.slice l_0a l_0l l_0c] h Q) = F197 := by kernel_rfl
theorem F197_ok {l_0a : Option Addr} {l_0l : Nat} {l_0c : Nat} {h : Heap} {Q : Value → Heap → Prop} (H : F197 l_0a l_0l l_0c h Q) : CallsH Tryz.prog 197 [.slice l_0a l_0l l_0c] h Q :=
 callsH_of (ann := fun _ => annNil) (tys := fun _ => []) (pl := fun _ => none) Tryz.func197 (by kernel_rfl) (by have e := F197_eq; exact (congrFun (congrFun (congrFun (congrFun (congrFun (e) l_0a) l_0l) l_0c) h) Q).symm ▸ H)

/-- headgate/value.eight -/
def F198 (b0a : Option Addr) (b0l : Nat) (b0c : Nat) (n0 : Int) (h : Heap) (Q : Value → Heap → Prop) : Prop :=
 LoopH (fun again0 (s0 : Sl × Int) h_0 =>
  (bif decide ((s0.2 : Int) < 8) then
   0 ≤ ((IntKind.wrap .i64 (56 - (IntKind.wrap .i64 (8 * s0.2)))) : Int) ∧
   Al h_0 (.cells #[.int .u8 (IntKind.wrap .u8 (shrI .u64 n0 (IntKind.wrap .i64 (56 - (IntKind.wrap .i64 (8 * s0.2))))))] 5) fun b1 h_1 =>
   RunH Tryz.prog (Builtin.append_ #[85, 85] 85 #[.slice s0.1.a s0.1.l s0.1.c, .slice (some (Addr.mk b1 0 none)) 1 1]) h_1 fun r1 h_2 =>
   DSl r1 fun b2a b2l b2c =>
   again0 (⟨b2a, b2l, b2c⟩, IntKind.wrap .i64 (s0.2 + 1)) h_2
  else
   Q (.slice s0.1.a s0.1.l s0.1.c) h_0)) (⟨b0a, b0l, b0c⟩, 0) h
theorem F198_eq : (fun (b0a : Option Addr) (b0l : Nat) (b0c : Nat) (n0 : Int) (h : Heap) (Q : Value → Heap → Prop) => fnPT Tryz.prog Tryz.f198 (fun i => bif Nat.beq i 0 then annCons 0 (codSl) (annOne 6 (codI .i64)) else annNil) (fun _ => []) (fun _ => none) [.slice b0a b0l b0c, .int .u64 n0] h Q) = F198 := by kernel_rfl
theorem F198_ok {b0a : Option Addr} {b0l : Nat} {b0c : Nat} {n0 : Int} {h : Heap} {Q : Value → Heap → Prop} (H : F198 b0a b0l b0c n0 h Q) : CallsH Tryz.prog 198 [.slice b0a b0l b0c, .int .u64 n0] h Q :=
 callsH_of (ann := fun i => bif Nat.beq i 0 then annCons 0 (codSl) (annOne 6 (codI .i64)) else annNil) (tys := fun _ => []) (pl := fun _ => none) Tryz.func198 (by kernel_rfl) (by have e := F198_eq; exact (congrFun (congrFun (congrFun (congrFun (congrFun (congrFun (e) b0a) b0l) b0c) n0) h) Q).symm ▸ H)

/-- headgate/code.List[[]headgate/api.Value] -/
def F200 (l_0a : Option Addr) (l_0l : Nat) (l_0c : Nat) (one0 : Value) (h : Heap) (Q : Value → Heap → Prop) : Prop :=
 CallsH Tryz.prog 205 [.int .u64 (IntKind.wrap .u64 (l_0l : Int))] h fun r0 h_0 =>
 DSl r0 fun b0a b0l b0c =>
 LoopH (fun again0 (s0 : Sl × Int) h_1 =>
  (bif decide ((s0.2 : Int) < (l_0l : Int)) then
   IdxA l_0a l_0l s0.2 1 fun a0 =>
   Ld h_1 a0 fun v0 => DSl v0 fun x0a x0l x0c =>
   CallV Tryz.prog one0 [.slice x0a x0l x0c] h_1 fun r1 h_2 =>
   DSl r1 fun x1a x1l x1c =>
   RunH Tryz.prog (Builtin.append_ #[85, 85] 85 #[.slice s0.1.a s0.1.l s0.1.c, .slice x1a x1l x1c]) h_2 fun r2 h_3 =>
   DSl r2 fun b1a b1l b1c =>
   again0 (⟨b1a, b1l, b1c⟩, IntKind.wrap .i64 (s0.2 + 1)) h_3
  else
   Q (.slice s0.1.a s0.1.l s0.1.c) h_1)) (⟨b0a, b0l, b0c⟩, 0) h_0
theorem F200_eq : (fun (l_0a : Option Addr) (l_0l : Nat) (l_0c : Nat) (one0 : Value) (h : Heap) (Q : Value → Heap → Prop) => fnPT Tryz.prog Tryz.f200 (fun i => bif Nat.beq i 0 then annCons 5 (codSl) (annOne 14 (codI .i64)) else annNil) (fun _ => []) (fun _ => none) [.slice l_0a l_0l l_0c, one0] h Q) = F200 := by kernel_rfl
theorem F200_ok {l_0a : Option Addr} {l_0l : Nat} {l_0c : Nat} {one0 : Value} {h : Heap} {Q : Value → Heap → Prop} (H : F200 l_0a l_0l l_0c one0 h Q) : CallsH Tryz.prog 200 [.slice l_0a l_0l l_0c, one0] h Q :=
 callsH_of (ann := fun i => bif Nat.beq i 0 then annCons 5 (codSl) (annOne 14 (codI .i64)) else annNil) (tys := fun _ => []) (pl := fun _ => none) Tryz.func200 (by kernel_rfl) (by have e := F200_eq; exact (congrFun (congrFun (congrFun (congrFun (congrFun (congrFun (e) l_0a) l_0l) l_0c) one0) h) Q).symm ▸ H)

/-- headgate/code.Rows$1 -/
def F201 (r0a : Option Addr) (r0l : Nat) (r0c : Nat) (h : Heap) (Q : Value → Heap → Prop) : Prop :=
 CallsH Tryz.prog 202 [.slice r0a r0l r0c, .func (.func 203) #[] #[]] h fun r1 h_0 =>
 DSl r1 fun x0a x0l x0c =>
 Q (.slice x0a x0l x0c) h_0
theorem F201_eq : (fun (r0a : Option Addr) (r0l : Nat) (r0c : Nat) (h : Heap) (Q : Value → Heap → Prop) => fnPT Tryz.prog Tryz.f201 (fun _ => annNil) (fun _ => []) (fun _ => none) [.slice r0a r0l r0c] h Q) = F201 := by kernel_rfl
theorem F201_ok {r0a : Option Addr} {r0l : Nat} {r0c : Nat} {h : Heap} {Q : Value → Heap → Prop} (H : F201 r0a r0l r0c h Q) : CallsH Tryz.prog 201 [.slice r0a r0l r0c] h Q :=
 callsH_of (ann := fun _ => annNil) (tys := fun _ => []) (pl := fun _ => none) Tryz.func201 (by kernel_rfl) (by have e := F201_eq; exact (congrFun (congrFun (congrFun (congrFun (congrFun (e) r0a) r0l) r0c) h) Q).symm ▸ H)

/-- headgate/code.List[headgate/api.Value] -/
def F202 (l_0a : Option Addr) (l_0l : Nat) (l_0c : Nat) (one0 : Value) (h : Heap) (Q : Value → Heap → Prop) : Prop :=
 CallsH Tryz.prog 205 [.int .u64 (IntKind.wrap .u64 (l_0l : Int))] h fun r0 h_0 =>
 DSl r0 fun b0a b0l b0c =>
 LoopH (fun again0 (s0 : Sl × Int) h_1 =>
  (bif decide ((s0.2 : Int) < (l_0l : Int)) then
   IdxA l_0a l_0l s0.2 3 fun a0 =>
   Ld h_1 (a0.add 0) fun c0 =>
   Ld h_1 (a0.add 1) fun c1 =>
   Ld h_1 (a0.add 2) fun c2 =>
   ∃ (x0 : Int), ∃ (x1 : Int), ∃ (x2 : ByteArray), (Value.agg #[c0, c1, c2]) = .agg #[.int .i64 x0, .int .i64 x1, .string x2] ∧
   Al h_1 (.cells #[.int .i64 0, .int .i64 0, .string .empty] 84) fun b1 h_2 =>
   StC h_2 ((Addr.mk b1 0 none).add 0) (.int .i64 x0) fun h_4 =>
   StC h_4 ((Addr.mk b1 0 none).add 1) (.int .i64 x1) fun h_5 =>
   StC h_5 ((Addr.mk b1 0 none).add 2) (.string x2) fun h_6 =>
   Ld h_6 ((Addr.mk b1 0 none).add 0) fun c3 =>
   Ld h_6 ((Addr.mk b1 0 none).add 1) fun c4 =>
   Ld h_6 ((Addr.mk b1 0 none).add 2) fun c5 =>
   ∃ (x3 : Int), ∃ (x4 : Int), ∃ (x5 : ByteArray), (Value.agg #[c3, c4, c5]) = .agg #[.int .i64 x3, .int .i64 x4, .string x5] ∧
   CallV Tryz.prog one0 [.agg #[.int .i64 x3, .int .i64 x4, .string x5]] h_6 fun r3 h_7 =>
   DSl r3 fun x6a x6l x6c =>
   RunH Tryz.prog (Builtin.append_ #[85, 85] 85 #[.slice s0.1.a s0.1.l s0.1.c, .slice x6a x6l x6c]) h_7 fun r4 h_8 =>
   DSl r4 fun b2a b2l b2c =>
   again0 (⟨b2a, b2l, b2c⟩, IntKind.wrap .i64 (s0.2 + 1)) h_8
  else
   Q (.slice s0.1.a s0.1.l s0.1.c) h_1)) (⟨b0a, b0l, b0c⟩, 0) h_0
theorem F202_eq : (fun (l_0a : Option Addr) (l_0l : Nat) (l_0c : Nat) (one0 : Value) (h : Heap) (Q : Value → Heap → Prop) => fnPT Tryz.prog Tryz.f202 (fun i => bif Nat.beq i 0 then annCons 5 (codSl) (annOne 14 (codI .i64)) else annNil) (fun _ => []) (fun _ => none) [.slice l_0a l_0l l_0c, one0] h Q) = F202 := by kernel_rfl
theorem F202_ok {l_0a : Option Addr} {l_0l : Nat} {l_0c : Nat} {one0 : Value} {h : Heap} {Q : Value → Heap → Prop} (H : F202 l_0a l_0l l_0c one0 h Q) : CallsH Tryz.prog 202 [.slice l_0a l_0l l_0c, one0] h Q :=
 callsH_of (ann := fun i => bif Nat.beq i 0 then annCons 5 (codSl) (annOne 14 (codI .i64)) else annNil) (tys := fun _ => []) (pl := fun _ => none) Tryz.func202 (by kernel_rfl) (by have e := F202_eq; exact (congrFun (congrFun (congrFun (congrFun (congrFun (congrFun (e) l_0a) l_0l) l_0c) one0) h) Q).symm ▸ H)

/-- headgate/code.one -/
def F203 (v0 : Int) (v1 : Int) (v2 : ByteArray) (h : Heap) (Q : Value → Heap → Prop) : Prop :=
 Al h (.cells #[.int .i64 v0, .int .i64 v1, .string v2] 84) fun b0 h_0 =>
 Ld h_0 ((Addr.mk b0 0 none).add 0) fun v3 => DI .i64 v3 fun x0 =>
 Al h_0 (.cells #[.int .u8 (IntKind.wrap .u8 x0)] 5) fun b1 h_1 =>
 Ld h_1 ((Addr.mk b0 0 none).add 0) fun v4 => DI .i64 v4 fun x1 =>
 (bif (x1 : Int) == 1 then
  Ld h_1 ((Addr.mk b0 0 none).add 1) fun v5 => DI .i64 v5 fun x2 =>
  CallsH Tryz.prog 237 [.int .i64 x2] h_1 fun r2 h_2 =>
  DI .u64 r2 fun x3 =>
  CallsH Tryz.prog 205 [.int .u64 x3] h_2 fun r3 h_3 =>
  DSl r3 fun x4a x4l x4c =>
  RunH Tryz.prog (Builtin.append_ #[85, 85] 85 #[.slice (some (Addr.mk b1 0 none)) 1 1, .slice x4a x4l x4c]) h_3 fun r4 h_4 =>
  DSl r4 fun b2a b2l b2c =>
  Q (.slice b2a b2l b2c) h_4
 else
  (bif (x1 : Int) == 2 then
   Ld h_1 ((Addr.mk b0 0 none).add 1) fun v6 => DI .i64 v6 fun x5 =>
   Al h_1 (.cells #[.int .u8 (IntKind.wrap .u8 x5)] 5) fun b3 h_5 =>
   RunH Tryz.prog (Builtin.append_ #[85, 85] 85 #[.slice (some (Addr.mk b1 0 none)) 1 1, .slice (some (Addr.mk b3 0 none)) 1 1]) h_5 fun r6 h_6 =>
   DSl r6 fun b4a b4l b4c =>
   Q (.slice b4a b4l b4c) h_6
  else
   (bif (x1 : Int) == 3 then
    Ld h_1 ((Addr.mk b0 0 none).add 2) fun v7 => DS v7 fun x6 =>
    CallsH Tryz.prog 138 [.string x6] h_1 fun r7 h_7 =>
    DSl r7 fun x7a x7l x7c =>
    RunH Tryz.prog (Builtin.append_ #[85, 85] 85 #[.slice (some (Addr.mk b1 0 none)) 1 1, .slice x7a x7l x7c]) h_7 fun r8 h_8 =>
    DSl r8 fun b5a b5l b5c =>
    Q (.slice b5a b5l b5c) h_8
   else
    Q (.slice (some (Addr.mk b1 0 none)) 1 1) h_1)))
theorem F203_eq : (fun (v0 : Int) (v1 : Int) (v2 : ByteArray) (h : Heap) (Q : Value → Heap → Prop) => fnPT Tryz.prog Tryz.f203 (fun _ => annNil) (fun _ => []) (fun _ => none) [.agg #[.int .i64 v0, .int .i64 v1, .string v2]] h Q) = F203 := by kernel_rfl
theorem F203_ok {v0 : Int} {v1 : Int} {v2 : ByteArray} {h : Heap} {Q : Value → Heap → Prop} (H : F203 v0 v1 v2 h Q) : CallsH Tryz.prog 203 [.agg #[.int .i64 v0, .int .i64 v1, .string v2]] h Q :=
 callsH_of (ann := fun _ => annNil) (tys := fun _ => []) (pl := fun _ => none) Tryz.func203 (by kernel_rfl) (by have e := F203_eq; exact (congrFun (congrFun (congrFun (congrFun (congrFun (e) v0) v1) v2) h) Q).symm ▸ H)

/-- headgate/crc.More[string] -/
def F204 (sum0 : Int) (b0 : ByteArray) (h : Heap) (Q : Value → Heap → Prop) : Prop :=
 LoopH (fun again0 (s0 : Int × Int) h_0 =>
  (bif decide ((s0.2 : Int) < ((b0 : ByteArray).size : Int)) then
   0 ≤ (s0.2 : Int) ∧ (s0.2 : Int) < ((b0 : ByteArray).size : Int) ∧
   LoopH (fun again1 (s1 : Int × Int) h_1 =>
    (bif decide ((s1.2 : Int) < 8) then
     0 ≤ (1 : Int) ∧
     again1 (bitsI .xor .u32 (shrI .u32 s1.1 1) (bitsI .and .u32 2197175160 (IntKind.wrap .u32 (0 - (bitsI .and .u32 s1.1 1)))), IntKind.wrap .i64 (s1.2 + 1)) h_1
    else
     again0 (s1.1, IntKind.wrap .i64 (s0.2 + 1)) h_1)) (bitsI .xor .u32 s0.1 (IntKind.wrap .u32 (bt b0 s0.2)), 0) h_0
  else
   Q (.int .u32 (bitsI .xor .u32 4294967295 s0.1)) h_0)) (bitsI .xor .u32 4294967295 sum0, 0) h
theorem F204_eq : (fun (sum0 : Int) (b0 : ByteArray) (h : Heap) (Q : Value → Heap → Prop) => fnPT Tryz.prog Tryz.f204 (fun i => bif Nat.beq i 0 then annCons 5 (codI .u32) (annOne 11 (codI .i64)) else bif Nat.beq i 2 then annCons 5 (codI .u32) (annOne 20 (codI .i64)) else annNil) (fun _ => []) (fun _ => none) [.int .u32 sum0, .string b0] h Q) = F204 := by kernel_rfl
theorem F204_ok {sum0 : Int} {b0 : ByteArray} {h : Heap} {Q : Value → Heap → Prop} (H : F204 sum0 b0 h Q) : CallsH Tryz.prog 204 [.int .u32 sum0, .string b0] h Q :=
 callsH_of (ann := fun i => bif Nat.beq i 0 then annCons 5 (codI .u32) (annOne 11 (codI .i64)) else bif Nat.beq i 2 then annCons 5 (codI .u32) (annOne 20 (codI .i64)) else annNil) (tys := fun _ => []) (pl := fun _ => none) Tryz.func204 (by kernel_rfl) (by have e := F204_eq; exact (congrFun (congrFun (congrFun (congrFun (e) sum0) b0) h) Q).symm ▸ H)

/-- headgate/code.Num -/
def F205 (n0 : Int) (h : Heap) (Q : Value → Heap → Prop) : Prop :=
 LoopH (fun again0 (s0 : Int × Sl) h_0 =>
  (bif decide ((s0.1 : Int) ≥ 128) then
   Al h_0 (.cells #[.int .u8 (bitsI .or .u8 (IntKind.wrap .u8 s0.1) 128)] 5) fun b0 h_1 =>
   RunH Tryz.prog (Builtin.append_ #[85, 85] 85 #[.slice s0.2.a s0.2.l s0.2.c, .slice (some (Addr.mk b0 0 none)) 1 1]) h_1 fun r1 h_2 =>
   DSl r1 fun b1a b1l b1c =>
   0 ≤ (7 : Int) ∧
   again0 (shrI .u64 s0.1 7, ⟨b1a, b1l, b1c⟩) h_2
  else
   Al h_0 (.cells #[.int .u8 (IntKind.wrap .u8 s0.1)] 5) fun b2 h_3 =>
   RunH Tryz.prog (Builtin.append_ #[85, 85] 85 #[.slice s0.2.a s0.2.l s0.2.c, .slice (some (Addr.mk b2 0 none)) 1 1]) h_3 fun r3 h_4 =>
   DSl r3 fun x0a x0l x0c =>
   Q (.slice x0a x0l x0c) h_4)) (n0, ⟨none, 0, 0⟩) h
theorem F205_eq : (fun (n0 : Int) (h : Heap) (Q : Value → Heap → Prop) => fnPT Tryz.prog Tryz.f205 (fun i => bif Nat.beq i 0 then annCons 0 (codI .u64) (annOne 3 (codSl)) else annNil) (fun _ => []) (fun _ => none) [.int .u64 n0] h Q) = F205 := by kernel_rfl
theorem F205_ok {n0 : Int} {h : Heap} {Q : Value → Heap → Prop} (H : F205 n0 h Q) : CallsH Tryz.prog 205 [.int .u64 n0] h Q :=
 callsH_of (ann := fun i => bif Nat.beq i 0 then annCons 0 (codI .u64) (annOne 3 (codSl)) else annNil) (tys := fun _ => []) (pl := fun _ => none) Tryz.func205 (by kernel_rfl) (by have e := F205_eq; exact (congrFun (congrFun (congrFun (e) n0) h) Q).symm ▸ H)

/-- (headgate/metalog.table[bool]).rising -/
def F214 (t0 : Option Nat) (h : Heap) (Q : Value → Heap → Prop) : Prop :=
 Al h (.cells #[.map t0] 219) fun b0 h_0 =>
 Ld h_0 (Addr.mk b0 0 none) fun v0 => DM v0 fun x0 =>
 CallsH Tryz.prog 239 [.map x0] h_0 fun r1 h_1 =>
 ∃ (x1 : Value), r1 = x1 ∧
 CallsH Tryz.prog 193 [x1] h_1 fun r2 h_2 =>
 DSl r2 fun x2a x2l x2c =>
 Al h_2 (.cells #[.slice none 0 0] 240) fun b1 h_3 =>
 StC h_3 ((Addr.mk b1 0 none).add 0) (.slice x2a x2l x2c) fun h_5 =>
 Q (.func (.func 240) #[] #[.pointer (some (Addr.mk b1 0 none)), .pointer (some (Addr.mk b0 0 none))]) h_5
theorem F214_eq : (fun (t0 : Option Nat) (h : Heap) (Q : Value → Heap → Prop) => fnPT Tryz.prog Tryz.f214 (fun _ => annNil) (fun _ => []) (fun _ => none) [.map t0] h Q) = F214 := by kernel_rfl
theorem F214_ok {t0 : Option Nat} {h : Heap} {Q : Value → Heap → Prop} (H : F214 t0 h Q) : CallsH Tryz.prog 214 [.map t0] h Q :=
 callsH_of (ann := fun _ => annNil) (tys := fun _ => []) (pl := fun _ => none) Tryz.func214 (by kernel_rfl) (by have e := F214_eq; exact (congrFun (congrFun (congrFun (e) t0) h) Q).symm ▸ H)

/-- headgate/headgateref03.Cmp -/
def F219 (a0 : Int) (a1 : Int) (a2 : ByteArray) (b0 : Int) (b1 : Int) (b2 : ByteArray) (h : Heap) (Q : Value → Heap → Prop) : Prop :=
 Al h (.cells #[.int .i64 a0, .int .i64 a1, .string a2] 84) fun b3 h_0 =>
 Al h_0 (.cells #[.int .i64 b0, .int .i64 b1, .string b2] 84) fun b4 h_1 =>
 Ld h_1 ((Addr.mk b3 0 none).add 0) fun v0 => DI .i64 v0 fun x0 =>
 Ld h_1 ((Addr.mk b4 0 none).add 0) fun v1 => DI .i64 v1 fun x1 =>
 (bif decide ((x0 : Int) < x1) then
  Q (.int .i64 (-1)) h_1
 else
  Ld h_1 ((Addr.mk b3 0 none).add 0) fun v2 => DI .i64 v2 fun x2 =>
  Ld h_1 ((Addr.mk b4 0 none).add 0) fun v3 => DI .i64 v3 fun x3 =>
  (bif (x2 : Int) == x3 then
   Ld h_1 ((Addr.mk b3 0 none).add 1) fun v4 => DI .i64 v4 fun x4 =>
   Ld h_1 ((Addr.mk b4 0 none).add 1) fun v5 => DI .i64 v5 fun x5 =>
   (bif decide ((x4 : Int) < x5) then
    Q (.int .i64 (-1)) h_1
   else
    Ld h_1 ((Addr.mk b3 0 none).add 1) fun v6 => DI .i64 v6 fun x6 =>
    Ld h_1 ((Addr.mk b4 0 none).add 1) fun v7 => DI .i64 v7 fun x7 =>
    (bif (x6 : Int) == x7 then
     Ld h_1 ((Addr.mk b3 0 none).add 2) fun v8 => DS v8 fun x8 =>
     Ld h_1 ((Addr.mk b4 0 none).add 2) fun v9 => DS v9 fun x9 =>
     (bif strLt x8 x9 then
      Q (.int .i64 (-1)) h_1
     else
      Ld h_1 ((Addr.mk b3 0 none).add 0) fun c0 =>
      Ld h_1 ((Addr.mk b3 0 none).add 1) fun c1 =>
      Ld h_1 ((Addr.mk b3 0 none).add 2) fun c2 =>
      ∃ (x10 : Int), ∃ (x11 : Int), ∃ (x12 : ByteArray), (Value.agg #[c0, c1, c2]) = .agg #[.int .i64 x10, .int .i64 x11, .string x12] ∧
      Ld h_1 ((Addr.mk b4 0 none).add 0) fun c3 =>
      Ld h_1 ((Addr.mk b4 0 none).add 1) fun c4 =>
      Ld h_1 ((Addr.mk b4 0 none).add 2) fun c5 =>
      ∃ (x13 : Int), ∃ (x14 : Int), ∃ (x15 : ByteArray), (Value.agg #[c3, c4, c5]) = .agg #[.int .i64 x13, .int .i64 x14, .string x15] ∧
      (bif (((x10 : Int) == x13) && (((x11 : Int) == x14) && ((strEq x12 x15) && true))) then
       Q (.int .i64 0) h_1
      else
       Q (.int .i64 1) h_1))
    else
     Ld h_1 ((Addr.mk b3 0 none).add 0) fun c6 =>
     Ld h_1 ((Addr.mk b3 0 none).add 1) fun c7 =>
     Ld h_1 ((Addr.mk b3 0 none).add 2) fun c8 =>
     ∃ (x16 : Int), ∃ (x17 : Int), ∃ (x18 : ByteArray), (Value.agg #[c6, c7, c8]) = .agg #[.int .i64 x16, .int .i64 x17, .string x18] ∧
     Ld h_1 ((Addr.mk b4 0 none).add 0) fun c9 =>
     Ld h_1 ((Addr.mk b4 0 none).add 1) fun c10 =>
     Ld h_1 ((Addr.mk b4 0 none).add 2) fun c11 =>
     ∃ (x19 : Int), ∃ (x20 : Int), ∃ (x21 : ByteArray), (Value.agg #[c9, c10, c11]) = .agg #[.int .i64 x19, .int .i64 x20, .string x21] ∧
     (bif (((x16 : Int) == x19) && (((x17 : Int) == x20) && ((strEq x18 x21) && true))) then
      Q (.int .i64 0) h_1
     else
      Q (.int .i64 1) h_1)))
  else
   Ld h_1 ((Addr.mk b3 0 none).add 0) fun c12 =>
   Ld h_1 ((Addr.mk b3 0 none).add 1) fun c13 =>
   Ld h_1 ((Addr.mk b3 0 none).add 2) fun c14 =>
   ∃ (x22 : Int), ∃ (x23 : Int), ∃ (x24 : ByteArray), (Value.agg #[c12, c13, c14]) = .agg #[.int .i64 x22, .int .i64 x23, .string x24] ∧
   Ld h_1 ((Addr.mk b4 0 none).add 0) fun c15 =>
   Ld h_1 ((Addr.mk b4 0 none).add 1) fun c16 =>
   Ld h_1 ((Addr.mk b4 0 none).add 2) fun c17 =>
   ∃ (x25 : Int), ∃ (x26 : Int), ∃ (x27 : ByteArray), (Value.agg #[c15, c16, c17]) = .agg #[.int .i64 x25, .int .i64 x26, .string x27] ∧
   (bif (((x22 : Int) == x25) && (((x23 : Int) == x26) && ((strEq x24 x27) && true))) then
    Q (.int .i64 0) h_1
   else
    Q (.int .i64 1) h_1)))
theorem F219_eq : (fun (a0 : Int) (a1 : Int) (a2 : ByteArray) (b0 : Int) (b1 : Int) (b2 : ByteArray) (h : Heap) (Q : Value → Heap → Prop) => fnPT Tryz.prog Tryz.f219 (fun _ => annNil) (fun _ => []) (fun _ => none) [.agg #[.int .i64 a0, .int .i64 a1, .string a2], .agg #[.int .i64 b0, .int .i64 b1, .string b2]] h Q) = F219 := by kernel_rfl
theorem F219_ok {a0 : Int} {a1 : Int} {a2 : ByteArray} {b0 : Int} {b1 : Int} {b2 : ByteArray} {h : Heap} {Q : Value → Heap → Prop} (H : F219 a0 a1 a2 b0 b1 b2 h Q) : CallsH Tryz.prog 219 [.agg #[.int .i64 a0, .int .i64 a1, .string a2], .agg #[.int .i64 b0, .int .i64 b1, .string b2]] h Q :=
 callsH_of (ann := fun _ => annNil) (tys := fun _ => []) (pl := fun _ => none) Tryz.func219 (by kernel_rfl) (by have e := F219_eq; exact (congrFun (congrFun (congrFun (congrFun (congrFun (congrFun (congrFun (congrFun (e) a0) a1) a2) b0) b1) b2) h) Q).symm ▸ H)

/-- headgate/code.Unnum -/
def F228 (b0a : Option Addr) (b0l : Nat) (b0c : Nat) (h : Heap) (Q : Value → Heap → Prop) : Prop :=
 LoopH (fun again0 (s0 : Int × Int) h_0 =>
  (bif decide ((s0.2 : Int) < (b0l : Int)) then
   IdxA b0a b0l s0.2 1 fun a0 =>
   Ld h_0 a0 fun v0 => DI .u8 v0 fun c0 =>
   (bif (s0.2 : Int) == 9 then
    (bif decide ((c0 : Int) > 1) then
     (bif decide ((c0 : Int) > 1) then
      Q (.tuple #[.int .u64 0, .int .i64 0, .int .i64 41]) h_0
     else
      0 ≤ ((IntKind.wrap .i64 (7 * s0.2)) : Int) ∧
      (bif decide ((c0 : Int) < 128) then
       Q (.tuple #[.int .u64 (bitsI .or .u64 s0.1 (shlI .u64 (IntKind.wrap .u64 (bitsI .and .u8 c0 127)) (IntKind.wrap .i64 (7 * s0.2)))), .int .i64 (IntKind.wrap .i64 (s0.2 + 1)), .int .i64 0]) h_0
      else
       again0 (bitsI .or .u64 s0.1 (shlI .u64 (IntKind.wrap .u64 (bitsI .and .u8 c0 127)) (IntKind.wrap .i64 (7 * s0.2))), IntKind.wrap .i64 (s0.2 + 1)) h_0))
    else
     (bif decide ((s0.2 : Int) > 0) then
      (bif (c0 : Int) == 0 then
       Q (.tuple #[.int .u64 0, .int .i64 0, .int .i64 41]) h_0
      else
       0 ≤ ((IntKind.wrap .i64 (7 * s0.2)) : Int) ∧
       (bif decide ((c0 : Int) < 128) then
        Q (.tuple #[.int .u64 (bitsI .or .u64 s0.1 (shlI .u64 (IntKind.wrap .u64 (bitsI .and .u8 c0 127)) (IntKind.wrap .i64 (7 * s0.2)))), .int .i64 (IntKind.wrap .i64 (s0.2 + 1)), .int .i64 0]) h_0
       else
        again0 (bitsI .or .u64 s0.1 (shlI .u64 (IntKind.wrap .u64 (bitsI .and .u8 c0 127)) (IntKind.wrap .i64 (7 * s0.2))), IntKind.wrap .i64 (s0.2 + 1)) h_0))
     else
      0 ≤ ((IntKind.wrap .i64 (7 * s0.2)) : Int) ∧
      (bif decide ((c0 : Int) < 128) then
       Q (.tuple #[.int .u64 (bitsI .or .u64 s0.1 (shlI .u64 (IntKind.wrap .u64 (bitsI .and .u8 c0 127)) (IntKind.wrap .i64 (7 * s0.2)))), .int .i64 (IntKind.wrap .i64 (s0.2 + 1)), .int .i64 0]) h_0
      else
       again0 (bitsI .or .u64 s0.1 (shlI .u64 (IntKind.wrap .u64 (bitsI .and .u8 c0 127)) (IntKind.wrap .i64 (7 * s0.2))), IntKind.wrap .i64 (s0.2 + 1)) h_0)))
   else
    (bif decide ((s0.2 : Int) > 0) then
     (bif (c0 : Int) == 0 then
      Q (.tuple #[.int .u64 0, .int .i64 0, .int .i64 41]) h_0
     else
      0 ≤ ((IntKind.wrap .i64 (7 * s0.2)) : Int) ∧
      (bif decide ((c0 : Int) < 128) then
       Q (.tuple #[.int .u64 (bitsI .or .u64 s0.1 (shlI .u64 (IntKind.wrap .u64 (bitsI .and .u8 c0 127)) (IntKind.wrap .i64 (7 * s0.2)))), .int .i64 (IntKind.wrap .i64 (s0.2 + 1)), .int .i64 0]) h_0
      else
       again0 (bitsI .or .u64 s0.1 (shlI .u64 (IntKind.wrap .u64 (bitsI .and .u8 c0 127)) (IntKind.wrap .i64 (7 * s0.2))), IntKind.wrap .i64 (s0.2 + 1)) h_0))
    else
     0 ≤ ((IntKind.wrap .i64 (7 * s0.2)) : Int) ∧
     (bif decide ((c0 : Int) < 128) then
      Q (.tuple #[.int .u64 (bitsI .or .u64 s0.1 (shlI .u64 (IntKind.wrap .u64 (bitsI .and .u8 c0 127)) (IntKind.wrap .i64 (7 * s0.2)))), .int .i64 (IntKind.wrap .i64 (s0.2 + 1)), .int .i64 0]) h_0
     else
      again0 (bitsI .or .u64 s0.1 (shlI .u64 (IntKind.wrap .u64 (bitsI .and .u8 c0 127)) (IntKind.wrap .i64 (7 * s0.2))), IntKind.wrap .i64 (s0.2 + 1)) h_0)))
  else
   Q (.tuple #[.int .u64 0, .int .i64 0, .int .i64 41]) h_0)) (0, 0) h
theorem F228_eq : (fun (b0a : Option Addr) (b0l : Nat) (b0c : Nat) (h : Heap) (Q : Value → Heap → Prop) => fnPT Tryz.prog Tryz.f228 (fun i => bif Nat.beq i 0 then annCons 5 (codI .u64) (annOne 10 (codI .i64)) else annNil) (fun _ => []) (fun _ => none) [.slice b0a b0l b0c] h Q) = F228 := by kernel_rfl
theorem F228_ok {b0a : Option Addr} {b0l : Nat} {b0c : Nat} {h : Heap} {Q : Value → Heap → Prop} (H : F228 b0a b0l b0c h Q) : CallsH Tryz.prog 228 [.slice b0a b0l b0c] h Q :=
 callsH_of (ann := fun i => bif Nat.beq i 0 then annCons 5 (codI .u64) (annOne 10 (codI .i64)) else annNil) (tys := fun _ => []) (pl := fun _ => none) Tryz.func228 (by kernel_rfl) (by have e := F228_eq; exact (congrFun (congrFun (congrFun (congrFun (congrFun (e) b0a) b0l) b0c) h) Q).symm ▸ H)

/-- slices.Collect[int64] -/
def F231 (seq0 : Value) (h : Heap) (Q : Value → Heap → Prop) : Prop :=
 CallsH Tryz.prog 252 [.slice none 0 0, seq0] h fun r0 h_0 =>
 DSl r0 fun x0a x0l x0c =>
 Q (.slice x0a x0l x0c) h_0
theorem F231_eq : (fun (seq0 : Value) (h : Heap) (Q : Value → Heap → Prop) => fnPT Tryz.prog Tryz.f231 (fun _ => annNil) (fun _ => []) (fun _ => none) [seq0] h Q) = F231 := by kernel_rfl
theorem F231_ok {seq0 : Value} {h : Heap} {Q : Value → Heap → Prop} (H : F231 seq0 h Q) : CallsH Tryz.prog 231 [seq0] h Q :=
 callsH_of (ann := fun _ => annNil) (tys := fun _ => []) (pl := fun _ => none) Tryz.func231 (by kernel_rfl) (by have e := F231_eq; exact (congrFun (congrFun (congrFun (e) seq0) h) Q).symm ▸ H)

/-- maps.Keys[headgate/metalog.table[[]byte],int64,[]byte]$1 -/
def F233 (yield0 : Value) (c0 : Addr) (h : Heap) (Q : Value → Heap → Prop) : Prop :=
 Ld h c0 fun v0 => DM v0 fun x0 =>
 RunH Tryz.prog (Instr.range 214 (.map x0)) h fun r0 h_0 =>
 DP r0 fun p0 =>
 LoopH (fun again0 (s0 : Unit) h_1 =>
  RunH Tryz.prog (Instr.next (.pointer p0) false 0) h_1 fun r1 h_2 =>
  (
   r1 = .tuple #[.bool false] ∧
   Q (.tuple #[]) h_2) ∨ (
   ∃ (k0 x1 : Value), r1 = .tuple #[.bool true, k0, x1] ∧
   RunH Tryz.prog (Instr.entry (.pointer p0)) h_2 fun r2 h_3 =>
   ∃ (x2 : Int), ∃ (x3 : Value), r2 = .tuple #[.int .i64 x2, x3] ∧
   CallV Tryz.prog yield0 [.int .i64 x2] h_3 fun r3 h_4 =>
   DB r3 fun x4 =>
   (bif !x4 then
    Q (.tuple #[]) h_4
   else
    again0 () h_4))) () h_0
theorem F233_eq : (fun (yield0 : Value) (c0 : Addr) (h : Heap) (Q : Value → Heap → Prop) => fnPT Tryz.prog Tryz.f233 (fun i => bif Nat.beq i 0 then annNil else annNil) (fun i => bif Nat.beq i 1002 then [2, 0] else []) (fun _ => none) [yield0, .pointer (some c0)] h Q) = F233 := by kernel_rfl
theorem F233_ok {yield0 : Value} {c0 : Addr} {h : Heap} {Q : Value → Heap → Prop} (H : F233 yield0 c0 h Q) : CallsH Tryz.prog 233 [yield0, .pointer (some c0)] h Q :=
 callsH_of (ann := fun i => bif Nat.beq i 0 then annNil else annNil) (tys := fun i => bif Nat.beq i 1002 then [2, 0] else []) (pl := fun _ => none) Tryz.func233 (by kernel_rfl) (by have e := F233_eq; exact (congrFun (congrFun (congrFun (congrFun (e) yield0) c0) h) Q).symm ▸ H)

/-- headgate/value.All$1 -/
def F235 (yield0 : Value) (c0 : Addr) (h : Heap) (Q : Value → Heap → Prop) : Prop :=
 Ld h c0 fun v0 => DSl v0 fun x0a x0l x0c =>
 LoopH (fun again0 (s0 : Int) h_0 =>
  (bif decide ((s0 : Int) < (x0l : Int)) then
   IdxA x0a x0l s0 3 fun a0 =>
   Ld h_0 (a0.add 0) fun c1 =>
   Ld h_0 (a0.add 1) fun c2 =>
   Ld h_0 (a0.add 2) fun c3 =>
   ∃ (x1 : Int), ∃ (x2 : Int), ∃ (x3 : ByteArray), (Value.agg #[c1, c2, c3]) = .agg #[.int .i64 x1, .int .i64 x2, .string x3] ∧
   Al h_0 (.cells #[.int .i64 0, .int .i64 0, .string .empty] 84) fun b0 h_1 =>
   StC h_1 ((Addr.mk b0 0 none).add 0) (.int .i64 x1) fun h_3 =>
   StC h_3 ((Addr.mk b0 0 none).add 1) (.int .i64 x2) fun h_4 =>
   StC h_4 ((Addr.mk b0 0 none).add 2) (.string x3) fun h_5 =>
   Ld h_5 ((Addr.mk b0 0 none).add 0) fun c4 =>
   Ld h_5 ((Addr.mk b0 0 none).add 1) fun c5 =>
   Ld h_5 ((Addr.mk b0 0 none).add 2) fun c6 =>
   ∃ (x4 : Int), ∃ (x5 : Int), ∃ (x6 : ByteArray), (Value.agg #[c4, c5, c6]) = .agg #[.int .i64 x4, .int .i64 x5, .string x6] ∧
   CallV Tryz.prog yield0 [.int .i64 s0, .agg #[.int .i64 x4, .int .i64 x5, .string x6]] h_5 fun r2 h_6 =>
   DB r2 fun x7 =>
   (bif !x7 then
    Q (.tuple #[]) h_6
   else
    again0 (IntKind.wrap .i64 (s0 + 1)) h_6)
  else
   Q (.tuple #[]) h_0)) 0 h
theorem F235_eq : (fun (yield0 : Value) (c0 : Addr) (h : Heap) (Q : Value → Heap → Prop) => fnPT Tryz.prog Tryz.f235 (fun i => bif Nat.beq i 0 then annOne 7 (codI .i64) else annNil) (fun _ => []) (fun _ => none) [yield0, .pointer (some c0)] h Q) = F235 := by kernel_rfl
theorem F235_ok {yield0 : Value} {c0 : Addr} {h : Heap} {Q : Value → Heap → Prop} (H : F235 yield0 c0 h Q) : CallsH Tryz.prog 235 [yield0, .pointer (some c0)] h Q :=
 callsH_of (ann := fun i => bif Nat.beq i 0 then annOne 7 (codI .i64) else annNil) (tys := fun _ => []) (pl := fun _ => none) Tryz.func235 (by kernel_rfl) (by have e := F235_eq; exact (congrFun (congrFun (congrFun (congrFun (e) yield0) c0) h) Q).symm ▸ H)

/-- headgate/code.whole -/
def F237 (n0 : Int) (h : Heap) (Q : Value → Heap → Prop) : Prop :=
 0 ≤ (1 : Int) ∧
 0 ≤ (63 : Int) ∧
 Q (.int .u64 (bitsI .xor .u64 (IntKind.wrap .u64 (shlI .i64 n0 1)) (IntKind.wrap .u64 (shrI .i64 n0 63)))) h
theorem F237_eq : (fun (n0 : Int) (h : Heap) (Q : Value → Heap → Prop) => fnPT Tryz.prog Tryz.f237 (fun _ => annNil) (fun _ => []) (fun _ => none) [.int .i64 n0] h Q) = F237 := by kernel_rfl
theorem F237_ok {n0 : Int} {h : Heap} {Q : Value → Heap → Prop} (H : F237 n0 h Q) : CallsH Tryz.prog 237 [.int .i64 n0] h Q :=
 callsH_of (ann := fun _ => annNil) (tys := fun _ => []) (pl := fun _ => none) Tryz.func237 (by kernel_rfl) (by have e := F237_eq; exact (congrFun (congrFun (congrFun (e) n0) h) Q).symm ▸ H)

/-- maps.Keys[headgate/metalog.table[bool],int64,bool] -/
def F239 (m0 : Option Nat) (h : Heap) (Q : Value → Heap → Prop) : Prop :=
 Al h (.cells #[.map m0] 219) fun b0 h_0 =>
 Q (.func (.func 262) #[] #[.pointer (some (Addr.mk b0 0 none))]) h_0
theorem F239_eq : (fun (m0 : Option Nat) (h : Heap) (Q : Value → Heap → Prop) => fnPT Tryz.prog Tryz.f239 (fun _ => annNil) (fun _ => []) (fun _ => none) [.map m0] h Q) = F239 := by kernel_rfl
theorem F239_ok {m0 : Option Nat} {h : Heap} {Q : Value → Heap → Prop} (H : F239 m0 h Q) : CallsH Tryz.prog 239 [.map m0] h Q :=
 callsH_of (ann := fun _ => annNil) (tys := fun _ => []) (pl := fun _ => none) Tryz.func239 (by kernel_rfl) (by have e := F239_eq; exact (congrFun (congrFun (congrFun (e) m0) h) Q).symm ▸ H)

/-- (headgate/metalog.table[bool]).rising$1 -/
def F240 (yield0 : Value) (c0 : Addr) (c1 : Addr) (h : Heap) (Q : Value → Heap → Prop) : Prop :=
 Ld h c0 fun v0 => DSl v0 fun x0a x0l x0c =>
 LoopH (fun again0 (s0 : Int) h_0 =>
  (bif decide ((s0 : Int) < (x0l : Int)) then
   IdxA x0a x0l s0 1 fun a0 =>
   Ld h_0 a0 fun v1 => DI .i64 v1 fun k0 =>
   Ld h_0 c1 fun v2 => DM v2 fun x1 =>
   ∃ es0, mapEs h_0 x1 es0 ∧ ∃ f0, Instr.findNow (.int .i64) (.int .i64 k0) (es0 : Array MapEntry).toList 0 = some f0 ∧
   DB ((Option.map (fun x => x.2) f0).getD (.bool false)) fun x2 =>
   CallV Tryz.prog yield0 [.int .i64 k0, .bool x2] h_0 fun r0 h_1 =>
   DB r0 fun x3 =>
   (bif !x3 then
    Q (.tuple #[]) h_1
   else
    again0 (IntKind.wrap .i64 (s0 + 1)) h_1)
  else
   Q (.tuple #[]) h_0)) 0 h
theorem F240_eq : (fun (yield0 : Value) (c0 : Addr) (c1 : Addr) (h : Heap) (Q : Value → Heap → Prop) => fnPT Tryz.prog Tryz.f240 (fun i => bif Nat.beq i 0 then annOne 8 (codI .i64) else annNil) (fun _ => []) (fun _ => none) [yield0, .pointer (some c0), .pointer (some c1)] h Q) = F240 := by kernel_rfl
theorem F240_ok {yield0 : Value} {c0 : Addr} {c1 : Addr} {h : Heap} {Q : Value → Heap → Prop} (H : F240 yield0 c0 c1 h Q) : CallsH Tryz.prog 240 [yield0, .pointer (some c0), .pointer (some c1)] h Q :=
 callsH_of (ann := fun i => bif Nat.beq i 0 then annOne 8 (codI .i64) else annNil) (tys := fun _ => []) (pl := fun _ => none) Tryz.func240 (by kernel_rfl) (by have e := F240_eq; exact (congrFun (congrFun (congrFun (congrFun (congrFun (e) yield0) c0) c1) h) Q).symm ▸ H)

/-- slices.AppendSeq[[]int64,int64] -/
def F252 (s0a : Option Addr) (s0l : Nat) (s0c : Nat) (seq0 : Value) (h : Heap) (Q : Value → Heap → Prop) : Prop :=
 Al h (.cells #[.slice s0a s0l s0c] 240) fun b0 h_0 =>
 RangeFn Tryz.prog seq0 1 none h_0 (fun l_0 rec_0 args0 h_1 Q_0 =>
  ∃ (y0 : Int), args0 = [.int .i64 y0] ∧
  h_1[l_0]? = some (rec_0 .ready none) ∧
  Ld (h_1.setIfInBounds l_0 (rec_0 .busy none)) (Addr.mk b0 0 none) fun v0 => DSl v0 fun x0a x0l x0c =>
  Al (h_1.setIfInBounds l_0 (rec_0 .busy none)) (.cells #[.int .i64 y0] 2) fun b1 h_2 =>
  RunH Tryz.prog (Builtin.append_ #[240, 240] 240 #[.slice x0a x0l x0c, .slice (some (Addr.mk b1 0 none)) 1 1]) h_2 fun r2 h_3 =>
  DSl r2 fun x1a x1l x1c =>
  StC h_3 ((Addr.mk b0 0 none).add 0) (.slice x1a x1l x1c) fun h_5 =>
  h_5[l_0]? = some (rec_0 .busy none) ∧ Q_0 (.bool true) (h_5.setIfInBounds l_0 (rec_0 .ready none))) (fun pend0 h_6 =>
  pend0 = none ∧
  Ld h_6 (Addr.mk b0 0 none) fun v1 => DSl v1 fun x2a x2l x2c =>
  h_6[h_0.size]? = some (.deferred (some [])) ∧
  Q (.slice x2a x2l x2c) (h_6.setIfInBounds h_0.size (.deferred none)))
theorem F252_eq : (fun (s0a : Option Addr) (s0l : Nat) (s0c : Nat) (seq0 : Value) (h : Heap) (Q : Value → Heap → Prop) => fnPT Tryz.prog Tryz.f252 (fun _ => annNil) (fun i => bif Nat.beq i 0 then [2] else []) (fun _ => none) [.slice s0a s0l s0c, seq0] h Q) = F252 := by kernel_rfl
theorem F252_ok {s0a : Option Addr} {s0l : Nat} {s0c : Nat} {seq0 : Value} {h : Heap} {Q : Value → Heap → Prop} (H : F252 s0a s0l s0c seq0 h Q) : CallsH Tryz.prog 252 [.slice s0a s0l s0c, seq0] h Q :=
 callsH_of (ann := fun _ => annNil) (tys := fun i => bif Nat.beq i 0 then [2] else []) (pl := fun _ => none) Tryz.func252 (by kernel_rfl) (by have e := F252_eq; exact (congrFun (congrFun (congrFun (congrFun (congrFun (congrFun (e) s0a) s0l) s0c) seq0) h) Q).symm ▸ H)

/-- maps.Keys[headgate/metalog.table[bool],int64,bool]$1 -/
def F262 (yield0 : Value) (c0 : Addr) (h : Heap) (Q : Value → Heap → Prop) : Prop :=
 Ld h c0 fun v0 => DM v0 fun x0 =>
 RunH Tryz.prog (Instr.range 219 (.map x0)) h fun r0 h_0 =>
 DP r0 fun p0 =>
 LoopH (fun again0 (s0 : Unit) h_1 =>
  RunH Tryz.prog (Instr.next (.pointer p0) false 0) h_1 fun r1 h_2 =>
  (
   r1 = .tuple #[.bool false] ∧
   Q (.tuple #[]) h_2) ∨ (
   ∃ (k0 x1 : Value), r1 = .tuple #[.bool true, k0, x1] ∧
   RunH Tryz.prog (Instr.entry (.pointer p0)) h_2 fun r2 h_3 =>
   ∃ (x2 : Int), ∃ (x3 : Value), r2 = .tuple #[.int .i64 x2, x3] ∧
   CallV Tryz.prog yield0 [.int .i64 x2] h_3 fun r3 h_4 =>
   DB r3 fun x4 =>
   (bif !x4 then
    Q (.tuple #[]) h_4
   else
    again0 () h_4))) () h_0
theorem F262_eq : (fun (yield0 : Value) (c0 : Addr) (h : Heap) (Q : Value → Heap → Prop) => fnPT Tryz.prog Tryz.f262 (fun i => bif Nat.beq i 0 then annNil else annNil) (fun i => bif Nat.beq i 1002 then [2, 0] else []) (fun _ => none) [yield0, .pointer (some c0)] h Q) = F262 := by kernel_rfl
theorem F262_ok {yield0 : Value} {c0 : Addr} {h : Heap} {Q : Value → Heap → Prop} (H : F262 yield0 c0 h Q) : CallsH Tryz.prog 262 [yield0, .pointer (some c0)] h Q :=
 callsH_of (ann := fun i => bif Nat.beq i 0 then annNil else annNil) (tys := fun i => bif Nat.beq i 1002 then [2, 0] else []) (pl := fun _ => none) Tryz.func262 (by kernel_rfl) (by have e := F262_eq; exact (congrFun (congrFun (congrFun (congrFun (e) yield0) c0) h) Q).symm ▸ H)

end Go.Proofs.YtibdiikcigokjaaGreatDoor
