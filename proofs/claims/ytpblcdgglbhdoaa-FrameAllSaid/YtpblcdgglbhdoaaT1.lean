/- The texts over heaps of functions of the program: written by a program of this claim's writer (decomp.py); Lean checks each against the code. -/
import Derived.Test.YtpblcdgglbhdoaaFw7
import Derived.Test.YtpblcdgglbhdoaaProg
namespace Go.Proofs.Ytpblcdgglbhdoaa
open Go Go.RowKit
set_option linter.unusedVariables false
set_option maxRecDepth 100000

/-- headgate/headgatelaw02.CrcOf -/
def F3 (s0 : ByteArray) (h : Heap) (Q : Value → Heap → Prop) : Prop :=
  CallsH Try.prog 13 [] h fun r0 h_0 =>
  DB r0 fun x0 =>
  (bif !x0 then
    Q (.bool false) h_0
  else
    (bif decide ((((s0 : ByteArray).size : Int) : Int) > 4000) then
      Q (.bool true) h_0
    else
      CallsH Try.prog 14 [.string s0] h_0 fun r1 h_1 =>
      DI .u32 r1 fun n0 =>
      CallsH Try.prog 15 [.string s0] h_1 fun r2 h_2 =>
      DI .u32 r2 fun x1 =>
      (bif (x1 : Int) == n0 then
        RunH Try.prog (Go.convert 9 26 (.string s0)) h_2 fun r3 h_3 =>
        DSl r3 fun x2a x2l x2c =>
        CallsH Try.prog 16 [.slice x2a x2l x2c] h_3 fun r4 h_4 =>
        DI .u32 r4 fun x3 =>
        Q (.bool ((x3 : Int) == n0)) h_4
      else
        Q (.bool false) h_2)))
theorem F3_eq : (fun (s0 : ByteArray) (h : Heap) (Q : Value → Heap → Prop) => fnPT Try.prog Try.f3 (fun _ => annNil) (fun _ => []) (fun _ => none) [.string s0] h Q) = F3 := by kernel_rfl
theorem F3_ok {s0 : ByteArray} {h : Heap} {Q : Value → Heap → Prop} (H : F3 s0 h Q) : CallsH Try.prog 3 [.string s0] h Q :=
  callsH_of (ann := fun _ => annNil) (tys := fun _ => []) (pl := fun _ => none) Try.func3 (by kernel_rfl) (by have e := F3_eq; exact (congrFun (congrFun (congrFun (e) s0) h) Q).symm ▸ H)

/-- headgate/headgatelaw02.CrcMore -/
def F4 (s0 : ByteArray) (cuts0a : Option Addr) (cuts0l : Nat) (cuts0c : Nat) (h : Heap) (Q : Value → Heap → Prop) : Prop :=
  CallsH Try.prog 13 [] h fun r0 h_0 =>
  DB r0 fun x0 =>
  (bif !x0 then
    Q (.bool false) h_0
  else
    (bif decide ((((s0 : ByteArray).size : Int) : Int) > 4000) then
      Q (.bool true) h_0
    else
      LoopH (fun again0 (s1 : Int × ByteArray × Int) h_1 =>
        (bif decide ((s1.2.2 : Int) < (cuts0l : Int)) then
          (bif decide ((s1.2.2 : Int) < 100) then
            IdxA cuts0a cuts0l s1.2.2 1 fun a0 =>
            Ld h_1 a0 fun v0 => DI .u8 v0 fun x1 =>
            (32 : Int) ≠ 0 ∧
            SlS s1.2.1 0 (if (((s1.2.1 : ByteArray).size : Int) : Int) < (IntKind.wrap .i64 (Int.tmod x1 32)) then ((s1.2.1 : ByteArray).size : Int) else (IntKind.wrap .i64 (Int.tmod x1 32))) fun s2 =>
            CallsH Try.prog 17 [.int .u32 s1.1, .string s2] h_1 fun r1 h_2 =>
            DI .u32 r1 fun sum0 =>
            SlS s1.2.1 (if (((s1.2.1 : ByteArray).size : Int) : Int) < (IntKind.wrap .i64 (Int.tmod x1 32)) then ((s1.2.1 : ByteArray).size : Int) else (IntKind.wrap .i64 (Int.tmod x1 32))) ((s1.2.1 : ByteArray).size : Int) fun s3 =>
            again0 (sum0, s3, IntKind.wrap .i64 (s1.2.2 + 1)) h_2
          else
            RunH Try.prog (Go.convert 9 26 (.string s1.2.1)) h_1 fun r2 h_3 =>
            DSl r2 fun x2a x2l x2c =>
            CallsH Try.prog 18 [.int .u32 s1.1, .slice x2a x2l x2c] h_3 fun r3 h_4 =>
            DI .u32 r3 fun x3 =>
            CallsH Try.prog 14 [.string s0] h_4 fun r4 h_5 =>
            DI .u32 r4 fun x4 =>
            Q (.bool ((x3 : Int) == x4)) h_5)
        else
          RunH Try.prog (Go.convert 9 26 (.string s1.2.1)) h_1 fun r5 h_6 =>
          DSl r5 fun x5a x5l x5c =>
          CallsH Try.prog 18 [.int .u32 s1.1, .slice x5a x5l x5c] h_6 fun r6 h_7 =>
          DI .u32 r6 fun x6 =>
          CallsH Try.prog 14 [.string s0] h_7 fun r7 h_8 =>
          DI .u32 r7 fun x7 =>
          Q (.bool ((x6 : Int) == x7)) h_8)) (0, s0, 0) h_0))
theorem F4_eq : (fun (s0 : ByteArray) (cuts0a : Option Addr) (cuts0l : Nat) (cuts0c : Nat) (h : Heap) (Q : Value → Heap → Prop) => fnPT Try.prog Try.f4 (fun i => bif Nat.beq i 0 then annCons 5 (codI .u32) (annCons 6 (codS) (annOne 7 (codI .i64))) else annNil) (fun _ => []) (fun _ => none) [.string s0, .slice cuts0a cuts0l cuts0c] h Q) = F4 := by kernel_rfl
theorem F4_ok {s0 : ByteArray} {cuts0a : Option Addr} {cuts0l : Nat} {cuts0c : Nat} {h : Heap} {Q : Value → Heap → Prop} (H : F4 s0 cuts0a cuts0l cuts0c h Q) : CallsH Try.prog 4 [.string s0, .slice cuts0a cuts0l cuts0c] h Q :=
  callsH_of (ann := fun i => bif Nat.beq i 0 then annCons 5 (codI .u32) (annCons 6 (codS) (annOne 7 (codI .i64))) else annNil) (tys := fun _ => []) (pl := fun _ => none) Try.func4 (by kernel_rfl) (by have e := F4_eq; exact (congrFun (congrFun (congrFun (congrFun (congrFun (congrFun (e) s0) cuts0a) cuts0l) cuts0c) h) Q).symm ▸ H)

/-- headgate/headgatelaw02.CrcBursts -/
def F5 (s0 : ByteArray) (at_0 : Int) (bit0 : Int) (turn0 : Int) (h : Heap) (Q : Value → Heap → Prop) : Prop :=
  CallsH Try.prog 13 [] h fun r0 h_0 =>
  DB r0 fun x0 =>
  (bif !x0 then
    Q (.bool false) h_0
  else
    (bif decide ((((s0 : ByteArray).size : Int) : Int) > 4000) then
      CallsH Try.prog 15 [.string .empty] h_0 fun r1 h_1 =>
      DI .u32 r1 fun x1 =>
      Q (.bool ((x1 : Int) == 0)) h_1
    else
      (bif (((s0 : ByteArray).size : Int) : Int) == 0 then
        CallsH Try.prog 15 [.string .empty] h_0 fun r2 h_2 =>
        DI .u32 r2 fun x2 =>
        Q (.bool ((x2 : Int) == 0)) h_2
      else
        (bif (turn0 : Int) == 0 then
          CallsH Try.prog 15 [.string .empty] h_0 fun r3 h_3 =>
          DI .u32 r3 fun x3 =>
          Q (.bool ((x3 : Int) == 0)) h_3
        else
          RunH Try.prog (Go.convert 9 26 (.string s0)) h_0 fun r4 h_4 =>
          DSl r4 fun b0a b0l b0c =>
          (8 : Int) ≠ 0 ∧
          0 ≤ ((IntKind.wrap .u64 (Int.tmod bit0 8)) : Int) ∧
          ((b0l : Int) : Int) ≠ 0 ∧
          LoopH (fun again0 (s1 : Bool × Int) h_5 =>
            (bif decide ((s1.2 : Int) < 5) then
              (bif decide (((IntKind.wrap .i64 ((Int.tmod (IntKind.wrap .i64 at_0) (b0l : Int)) + s1.2)) : Int) < (b0l : Int)) then
                0 ≤ ((IntKind.wrap .u64 (IntKind.wrap .i64 (8 * s1.2))) : Int) ∧
                IdxA b0a b0l (IntKind.wrap .i64 ((Int.tmod (IntKind.wrap .i64 at_0) (b0l : Int)) + s1.2)) 1 fun a0 =>
                Ld h_5 a0 fun v0 => DI .u8 v0 fun x4 =>
                IdxA b0a b0l (IntKind.wrap .i64 ((Int.tmod (IntKind.wrap .i64 at_0) (b0l : Int)) + s1.2)) 1 fun a1 =>
                StC h_5 (a1.add 0) (.int .u8 (bitsI .xor .u8 x4 (IntKind.wrap .u8 (shrI .u64 (shlI .u64 (IntKind.wrap .u64 turn0) (IntKind.wrap .u64 (Int.tmod bit0 8))) (IntKind.wrap .u64 (IntKind.wrap .i64 (8 * s1.2))))))) fun h_7 =>
                (bif s1.1 then
                  again0 (true, IntKind.wrap .i64 (s1.2 + 1)) h_7
                else
                  again0 (((IntKind.wrap .u8 (shrI .u64 (shlI .u64 (IntKind.wrap .u64 turn0) (IntKind.wrap .u64 (Int.tmod bit0 8))) (IntKind.wrap .u64 (IntKind.wrap .i64 (8 * s1.2))))) : Int) != 0, IntKind.wrap .i64 (s1.2 + 1)) h_7)
              else
                CallsH Try.prog 16 [.slice b0a b0l b0c] h_5 fun r6 h_8 =>
                DI .u32 r6 fun x5 =>
                CallsH Try.prog 15 [.string s0] h_8 fun r7 h_9 =>
                DI .u32 r7 fun x6 =>
                Q (.bool (((x5 : Int) != x6) == s1.1)) h_9)
            else
              CallsH Try.prog 16 [.slice b0a b0l b0c] h_5 fun r8 h_10 =>
              DI .u32 r8 fun x7 =>
              CallsH Try.prog 15 [.string s0] h_10 fun r9 h_11 =>
              DI .u32 r9 fun x8 =>
              Q (.bool (((x7 : Int) != x8) == s1.1)) h_11)) (false, 0) h_4))))
theorem F5_eq : (fun (s0 : ByteArray) (at_0 : Int) (bit0 : Int) (turn0 : Int) (h : Heap) (Q : Value → Heap → Prop) => fnPT Try.prog Try.f5 (fun i => bif Nat.beq i 0 then annCons 12 (codB) (annOne 13 (codI .i64)) else annNil) (fun _ => []) (fun _ => none) [.string s0, .int .u16 at_0, .int .u8 bit0, .int .u32 turn0] h Q) = F5 := by kernel_rfl
theorem F5_ok {s0 : ByteArray} {at_0 : Int} {bit0 : Int} {turn0 : Int} {h : Heap} {Q : Value → Heap → Prop} (H : F5 s0 at_0 bit0 turn0 h Q) : CallsH Try.prog 5 [.string s0, .int .u16 at_0, .int .u8 bit0, .int .u32 turn0] h Q :=
  callsH_of (ann := fun i => bif Nat.beq i 0 then annCons 12 (codB) (annOne 13 (codI .i64)) else annNil) (tys := fun _ => []) (pl := fun _ => none) Try.func5 (by kernel_rfl) (by have e := F5_eq; exact (congrFun (congrFun (congrFun (congrFun (congrFun (congrFun (e) s0) at_0) bit0) turn0) h) Q).symm ▸ H)

/-- headgate/headgatelaw02.CrcKeeps -/
def F6 (s0 : ByteArray) (h : Heap) (Q : Value → Heap → Prop) : Prop :=
  CallsH Try.prog 13 [] h fun r0 h_0 =>
  DB r0 fun x0 =>
  (bif !x0 then
    Q (.bool false) h_0
  else
    (bif decide ((((s0 : ByteArray).size : Int) : Int) > 4000) then
      Q (.bool true) h_0
    else
      RunH Try.prog (Go.convert 9 26 (.string s0)) h_0 fun r1 h_1 =>
      DSl r1 fun b0a b0l b0c =>
      CallsH Try.prog 16 [.slice b0a b0l b0c] h_1 fun r2 h_2 =>
      DI .u32 r2 fun x1 =>
      CallsH Try.prog 18 [.int .u32 7, .slice b0a b0l b0c] h_2 fun r3 h_3 =>
      DI .u32 r3 fun x2 =>
      ∃ bs0 : ByteArray, BytesIn h_3 b0a b0l bs0 ∧
      Q (.bool (strEq bs0 s0)) h_3))
theorem F6_eq : (fun (s0 : ByteArray) (h : Heap) (Q : Value → Heap → Prop) => fnPT Try.prog Try.f6 (fun _ => annNil) (fun _ => []) (fun _ => none) [.string s0] h Q) = F6 := by kernel_rfl
theorem F6_ok {s0 : ByteArray} {h : Heap} {Q : Value → Heap → Prop} (H : F6 s0 h Q) : CallsH Try.prog 6 [.string s0] h Q :=
  callsH_of (ann := fun _ => annNil) (tys := fun _ => []) (pl := fun _ => none) Try.func6 (by kernel_rfl) (by have e := F6_eq; exact (congrFun (congrFun (congrFun (e) s0) h) Q).symm ▸ H)

/-- headgate/headgatelaw05.FramePacks -/
def F7 (s0 : ByteArray) (t0 : ByteArray) (h : Heap) (Q : Value → Heap → Prop) : Prop :=
  CallsH Try.prog 19 [] h fun r0 h_0 =>
  DB r0 fun x0 =>
  (bif !x0 then
    Q (.bool false) h_0
  else
    (bif decide ((((s0 : ByteArray).size : Int) : Int) > 4000) then
      Q (.bool true) h_0
    else
      (bif decide ((((t0 : ByteArray).size : Int) : Int) > 4000) then
        Q (.bool true) h_0
      else
        RunH Try.prog (Go.convert 9 26 (.string s0)) h_0 fun r1 h_1 =>
        DSl r1 fun x1a x1l x1c =>
        CallsH Try.prog 20 [.slice x1a x1l x1c] h_1 fun r2 h_2 =>
        ∃ (x2a : Option Addr), ∃ (x2l : Nat), ∃ (x2c : Nat), ∃ (x3 : Int), r2 = .tuple #[.slice x2a x2l x2c, .int .i64 x3] ∧
        CallsH Try.prog 21 [.string s0] h_2 fun r3 h_3 =>
        ∃ (x4 : ByteArray), ∃ (x5 : Int), r3 = .tuple #[.string x4, .int .i64 x5] ∧
        RunH Try.prog (Go.convert 9 26 (.string t0)) h_3 fun r4 h_4 =>
        DSl r4 fun x6a x6l x6c =>
        CallsH Try.prog 22 [.slice x6a x6l x6c] h_4 fun r5 h_5 =>
        ∃ (x7a : Option Addr), ∃ (x7l : Nat), ∃ (x7c : Nat), ∃ (x8 : Int), r5 = .tuple #[.slice x7a x7l x7c, .int .i64 x8] ∧
        CallsH Try.prog 23 [.string t0, .int .i64 0] h_5 fun r6 h_6 =>
        ∃ (x9 : ByteArray), ∃ (x10 : Bool), r6 = .tuple #[.string x9, .bool x10] ∧
        ∃ bs0 : ByteArray, BytesIn h_6 x2a x2l bs0 ∧
        (bif !strEq bs0 x4 then
          Q (.bool false) h_6
        else
          (bif (x3 : Int) != x5 then
            Q (.bool false) h_6
          else
            (bif !x10 then
              (bif (x8 : Int) == 52 then
                Q (.bool (((x7l : Int) : Int) == 0)) h_6
              else
                Q (.bool false) h_6)
            else
              (bif ((IntKind.wrap .i64 (((x9 : ByteArray).size : Int) + 8)) : Int) != ((t0 : ByteArray).size : Int) then
                (bif (x8 : Int) == 52 then
                  Q (.bool (((x7l : Int) : Int) == 0)) h_6
                else
                  Q (.bool false) h_6)
              else
                (bif (x8 : Int) == 0 then
                  ∃ bs1 : ByteArray, BytesIn h_6 x7a x7l bs1 ∧
                  Q (.bool (strEq bs1 x9)) h_6
                else
                  Q (.bool false) h_6))))))))
theorem F7_eq : (fun (s0 : ByteArray) (t0 : ByteArray) (h : Heap) (Q : Value → Heap → Prop) => fnPT Try.prog Try.f7 (fun _ => annNil) (fun _ => []) (fun _ => none) [.string s0, .string t0] h Q) = F7 := by kernel_rfl
theorem F7_ok {s0 : ByteArray} {t0 : ByteArray} {h : Heap} {Q : Value → Heap → Prop} (H : F7 s0 t0 h Q) : CallsH Try.prog 7 [.string s0, .string t0] h Q :=
  callsH_of (ann := fun _ => annNil) (tys := fun _ => []) (pl := fun _ => none) Try.func7 (by kernel_rfl) (by have e := F7_eq; exact (congrFun (congrFun (congrFun (congrFun (e) s0) t0) h) Q).symm ▸ H)

/-- headgate/headgatelaw05.FrameScans -/
def F8 (s0 : ByteArray) (h : Heap) (Q : Value → Heap → Prop) : Prop :=
  CallsH Try.prog 19 [] h fun r0 h_0 =>
  DB r0 fun x0 =>
  (bif !x0 then
    Q (.bool false) h_0
  else
    (bif decide ((((s0 : ByteArray).size : Int) : Int) > 4000) then
      Q (.bool true) h_0
    else
      RunH Try.prog (Go.convert 9 26 (.string s0)) h_0 fun r1 h_1 =>
      DSl r1 fun x1a x1l x1c =>
      CallsH Try.prog 24 [.slice x1a x1l x1c] h_1 fun r2 h_2 =>
      ∃ (x2a : Option Addr), ∃ (x2l : Nat), ∃ (x2c : Nat), ∃ (x3 : Int), r2 = .tuple #[.slice x2a x2l x2c, .int .i64 x3] ∧
      CallsH Try.prog 25 [.string s0] h_2 fun r3 h_3 =>
      ∃ (x4a : Option Addr), ∃ (x4l : Nat), ∃ (x4c : Nat), ∃ (x5 : Int), r3 = .tuple #[.slice x4a x4l x4c, .int .i64 x5] ∧
      CallsH Try.prog 26 [.slice x2a x2l x2c, .slice x4a x4l x4c] h_3 fun r4 h_4 =>
      DB r4 fun x6 =>
      (bif x6 then
        Q (.bool ((x3 : Int) == x5)) h_4
      else
        Q (.bool false) h_4)))
theorem F8_eq : (fun (s0 : ByteArray) (h : Heap) (Q : Value → Heap → Prop) => fnPT Try.prog Try.f8 (fun _ => annNil) (fun _ => []) (fun _ => none) [.string s0] h Q) = F8 := by kernel_rfl
theorem F8_ok {s0 : ByteArray} {h : Heap} {Q : Value → Heap → Prop} (H : F8 s0 h Q) : CallsH Try.prog 8 [.string s0] h Q :=
  callsH_of (ann := fun _ => annNil) (tys := fun _ => []) (pl := fun _ => none) Try.func8 (by kernel_rfl) (by have e := F8_eq; exact (congrFun (congrFun (congrFun (e) s0) h) Q).symm ▸ H)

/-- headgate/headgatelaw05.FrameAll -/
def F9 (s0 : ByteArray) (stop0 : Int) (h : Heap) (Q : Value → Heap → Prop) : Prop :=
  Al h (.cells #[.int .u8 stop0] 5) fun b0 h_0 =>
  Al h_0 (.cells #[.bool false] 4) fun b1 h_1 =>
  CallsH Try.prog 19 [] h_1 fun r2 h_2 =>
  DB r2 fun x0 =>
  (bif !x0 then
    StC h_2 ((Addr.mk b1 0 none).add 0) (.bool false) fun h_4 =>
    Ld h_4 (Addr.mk b1 0 none) fun v0 => DB v0 fun res0 =>
    Q (.bool res0) h_4
  else
    (bif decide ((((s0 : ByteArray).size : Int) : Int) > 4000) then
      StC h_2 ((Addr.mk b1 0 none).add 0) (.bool true) fun h_6 =>
      Ld h_6 (Addr.mk b1 0 none) fun v1 => DB v1 fun res1 =>
      Q (.bool res1) h_6
    else
      RunH Try.prog (Go.convert 9 26 (.string s0)) h_2 fun r5 h_7 =>
      DSl r5 fun b2a b2l b2c =>
      CallsH Try.prog 27 [.slice b2a b2l b2c] h_7 fun r6 h_8 =>
      ∃ (seq0 : Value), r6 = seq0 ∧
      LoopH (fun again0 (s1 : Int) h_9 =>
        (bif decide ((s1 : Int) < (b2l : Int)) then
          IdxA b2a b2l s1 1 fun a0 =>
          Ld h_9 a0 fun v2 => DI .u8 v2 fun x1 =>
          IdxA b2a b2l s1 1 fun a1 =>
          StC h_9 (a1.add 0) (.int .u8 (bitsI .xor .u8 x1 255)) fun h_11 =>
          again0 (IntKind.wrap .i64 (s1 + 1)) h_11
        else
          CallsH Try.prog 25 [.string s0] h_9 fun r8 h_12 =>
          ∃ (x2a : Option Addr), ∃ (x2l : Nat), ∃ (x2c : Nat), ∃ (x3 : Int), r8 = .tuple #[.slice x2a x2l x2c, .int .i64 x3] ∧
          Al h_12 (.cells #[.slice none 0 0] 46) fun b3 h_13 =>
          StC h_13 ((Addr.mk b3 0 none).add 0) (.slice x2a x2l x2c) fun h_15 =>
          Al h_15 (.cells #[.int .i64 0] 3) fun b4 h_16 =>
          StC h_16 ((Addr.mk b4 0 none).add 0) (.int .i64 0) fun h_18 =>
          LoopH (fun again1 (s2 : (Addr) × List Nat) h_19 =>
            Ld h_19 s2.1 fun v3 => DI .i64 v3 fun x4 =>
            (bif decide ((x4 : Int) < 2) then
              Al h_19 (.cells #[.int .i64 0] 3) fun b5 h_20 =>
              StC h_20 ((Addr.mk b5 0 none).add 0) (.int .i64 0) fun h_22 =>
              Al h_22 (.cells #[.int .i64 0] 3) fun b6 h_23 =>
              StC h_23 ((Addr.mk b6 0 none).add 0) (.int .i64 0) fun h_25 =>
              RangeFn Try.prog seq0 2 none h_25 (fun l_0 rec_0 args0 h_26 Q_0 =>
                ∃ (y0 : Int), ∃ (y1a : Option Addr), ∃ (y1l : Nat), ∃ (y1c : Nat), args0 = [.int .i64 y0, .slice y1a y1l y1c] ∧
                h_26[l_0]? = some (rec_0 .ready none) ∧
                Ld (h_26.setIfInBounds l_0 (rec_0 .busy none)) (Addr.mk b6 0 none) fun v4 => DI .i64 v4 fun x5 =>
                Ld (h_26.setIfInBounds l_0 (rec_0 .busy none)) (Addr.mk b3 0 none) fun v5 => DSl v5 fun x6a x6l x6c =>
                (bif decide ((x5 : Int) ≥ (x6l : Int)) then
                  StC (h_26.setIfInBounds l_0 (rec_0 .busy none)) ((Addr.mk b1 0 none).add 0) (.bool false) fun h_28 =>
                  h_28[l_0]? = some (rec_0 .busy none) ∧ Q_0 (.bool false) (h_28.setIfInBounds l_0 (rec_0 .done (some .ret)))
                else
                  Ld (h_26.setIfInBounds l_0 (rec_0 .busy none)) (Addr.mk b5 0 none) fun v6 => DI .i64 v6 fun x7 =>
                  (bif (y0 : Int) != x7 then
                    StC (h_26.setIfInBounds l_0 (rec_0 .busy none)) ((Addr.mk b1 0 none).add 0) (.bool false) fun h_30 =>
                    h_30[l_0]? = some (rec_0 .busy none) ∧ Q_0 (.bool false) (h_30.setIfInBounds l_0 (rec_0 .done (some .ret)))
                  else
                    ∃ bs0 : ByteArray, BytesIn (h_26.setIfInBounds l_0 (rec_0 .busy none)) y1a y1l bs0 ∧
                    Ld (h_26.setIfInBounds l_0 (rec_0 .busy none)) (Addr.mk b3 0 none) fun v7 => DSl v7 fun x8a x8l x8c =>
                    Ld (h_26.setIfInBounds l_0 (rec_0 .busy none)) (Addr.mk b6 0 none) fun v8 => DI .i64 v8 fun x9 =>
                    IdxA x8a x8l x9 1 fun a2 =>
                    Ld (h_26.setIfInBounds l_0 (rec_0 .busy none)) a2 fun v9 => DS v9 fun x10 =>
                    (bif !strEq bs0 x10 then
                      StC (h_26.setIfInBounds l_0 (rec_0 .busy none)) ((Addr.mk b1 0 none).add 0) (.bool false) fun h_32 =>
                      h_32[l_0]? = some (rec_0 .busy none) ∧ Q_0 (.bool false) (h_32.setIfInBounds l_0 (rec_0 .done (some .ret)))
                    else
                      Ld (h_26.setIfInBounds l_0 (rec_0 .busy none)) (Addr.mk b5 0 none) fun v10 => DI .i64 v10 fun x11 =>
                      Ld (h_26.setIfInBounds l_0 (rec_0 .busy none)) (Addr.mk b3 0 none) fun v11 => DSl v11 fun x12a x12l x12c =>
                      Ld (h_26.setIfInBounds l_0 (rec_0 .busy none)) (Addr.mk b6 0 none) fun v12 => DI .i64 v12 fun x13 =>
                      IdxA x12a x12l x13 1 fun a3 =>
                      Ld (h_26.setIfInBounds l_0 (rec_0 .busy none)) a3 fun v13 => DS v13 fun x14 =>
                      StC (h_26.setIfInBounds l_0 (rec_0 .busy none)) ((Addr.mk b5 0 none).add 0) (.int .i64 (IntKind.wrap .i64 ((IntKind.wrap .i64 (x11 + 8)) + ((x14 : ByteArray).size : Int)))) fun h_34 =>
                      Ld h_34 (Addr.mk b6 0 none) fun v14 => DI .i64 v14 fun x15 =>
                      StC h_34 ((Addr.mk b6 0 none).add 0) (.int .i64 (IntKind.wrap .i64 (x15 + 1))) fun h_36 =>
                      Ld h_36 s2.1 fun v15 => DI .i64 v15 fun x16 =>
                      (bif (x16 : Int) == 0 then
                        Ld h_36 (Addr.mk b6 0 none) fun v16 => DI .i64 v16 fun x17 =>
                        Ld h_36 (Addr.mk b0 0 none) fun v17 => DI .u8 v17 fun x18 =>
                        (bif decide ((x17 : Int) > (IntKind.wrap .i64 x18)) then
                          h_36[l_0]? = some (rec_0 .busy none) ∧ Q_0 (.bool false) (h_36.setIfInBounds l_0 (rec_0 .done (some (.exit 4))))
                        else
                          h_36[l_0]? = some (rec_0 .busy none) ∧ Q_0 (.bool true) (h_36.setIfInBounds l_0 (rec_0 .ready none)))
                      else
                        h_36[l_0]? = some (rec_0 .busy none) ∧ Q_0 (.bool true) (h_36.setIfInBounds l_0 (rec_0 .ready none))))))) (fun pend0 h_37 =>
                (pend0 = none ∨ pend0 = some (.ret) ∨ pend0 = some (.exit 4)) ∧
                (pend0 = none →
                  Ld h_37 s2.1 fun v18 => DI .i64 v18 fun x19 =>
                  (bif (x19 : Int) == 1 then
                    Ld h_37 (Addr.mk b6 0 none) fun v19 => DI .i64 v19 fun x20 =>
                    Ld h_37 (Addr.mk b3 0 none) fun v20 => DSl v20 fun x21a x21l x21c =>
                    (bif (x20 : Int) != (x21l : Int) then
                      StC h_37 ((Addr.mk b1 0 none).add 0) (.bool false) fun h_39 =>
                      h_39[h_25.size]? = some (.deferred (some [])) ∧
                      leaveH s2.2 (h_39.setIfInBounds h_25.size (.deferred none)) fun h_40 =>
                      Ld h_40 (Addr.mk b1 0 none) fun v21 => DB v21 fun res2 =>
                      Q (.bool res2) h_40
                    else
                      Ld h_37 s2.1 fun v22 => DI .i64 v22 fun x22 =>
                      Al h_37 (.cells #[.int .i64 0] 3) fun b7 h_41 =>
                      StC h_41 ((Addr.mk b7 0 none).add 0) (.int .i64 x22) fun h_43 =>
                      Ld h_43 (Addr.mk b7 0 none) fun v23 => DI .i64 v23 fun x23 =>
                      StC h_43 ((Addr.mk b7 0 none).add 0) (.int .i64 (IntKind.wrap .i64 (x23 + 1))) fun h_45 =>
                      again1 ((Addr.mk b7 0 none), (h_25.size :: s2.2)) h_45)
                  else
                    Ld h_37 s2.1 fun v24 => DI .i64 v24 fun x24 =>
                    Al h_37 (.cells #[.int .i64 0] 3) fun b8 h_46 =>
                    StC h_46 ((Addr.mk b8 0 none).add 0) (.int .i64 x24) fun h_48 =>
                    Ld h_48 (Addr.mk b8 0 none) fun v25 => DI .i64 v25 fun x25 =>
                    StC h_48 ((Addr.mk b8 0 none).add 0) (.int .i64 (IntKind.wrap .i64 (x25 + 1))) fun h_50 =>
                    again1 ((Addr.mk b8 0 none), (h_25.size :: s2.2)) h_50)) ∧
                (pend0 = some (.ret) →
                  h_37[h_25.size]? = some (.deferred (some [])) ∧
                  leaveH s2.2 (h_37.setIfInBounds h_25.size (.deferred none)) fun h_51 =>
                  Ld h_51 (Addr.mk b1 0 none) fun v26 => DB v26 fun res3 =>
                  Q (.bool res3) h_51) ∧
                (pend0 = some (.exit 4) →
                  Ld h_37 s2.1 fun v27 => DI .i64 v27 fun x26 =>
                  (bif (x26 : Int) == 1 then
                    Ld h_37 (Addr.mk b6 0 none) fun v28 => DI .i64 v28 fun x27 =>
                    Ld h_37 (Addr.mk b3 0 none) fun v29 => DSl v29 fun x28a x28l x28c =>
                    (bif (x27 : Int) != (x28l : Int) then
                      StC h_37 ((Addr.mk b1 0 none).add 0) (.bool false) fun h_53 =>
                      h_53[h_25.size]? = some (.deferred (some [])) ∧
                      leaveH s2.2 (h_53.setIfInBounds h_25.size (.deferred none)) fun h_54 =>
                      Ld h_54 (Addr.mk b1 0 none) fun v30 => DB v30 fun res4 =>
                      Q (.bool res4) h_54
                    else
                      Ld h_37 s2.1 fun v31 => DI .i64 v31 fun x29 =>
                      Al h_37 (.cells #[.int .i64 0] 3) fun b9 h_55 =>
                      StC h_55 ((Addr.mk b9 0 none).add 0) (.int .i64 x29) fun h_57 =>
                      Ld h_57 (Addr.mk b9 0 none) fun v32 => DI .i64 v32 fun x30 =>
                      StC h_57 ((Addr.mk b9 0 none).add 0) (.int .i64 (IntKind.wrap .i64 (x30 + 1))) fun h_59 =>
                      again1 ((Addr.mk b9 0 none), (h_25.size :: s2.2)) h_59)
                  else
                    Ld h_37 s2.1 fun v33 => DI .i64 v33 fun x31 =>
                    Al h_37 (.cells #[.int .i64 0] 3) fun b10 h_60 =>
                    StC h_60 ((Addr.mk b10 0 none).add 0) (.int .i64 x31) fun h_62 =>
                    Ld h_62 (Addr.mk b10 0 none) fun v34 => DI .i64 v34 fun x32 =>
                    StC h_62 ((Addr.mk b10 0 none).add 0) (.int .i64 (IntKind.wrap .i64 (x32 + 1))) fun h_64 =>
                    again1 ((Addr.mk b10 0 none), (h_25.size :: s2.2)) h_64)))
            else
              StC h_19 ((Addr.mk b1 0 none).add 0) (.bool true) fun h_66 =>
              leaveH s2.2 h_66 fun h_67 =>
              Ld h_67 (Addr.mk b1 0 none) fun v35 => DB v35 fun res5 =>
              Q (.bool res5) h_67)) ((Addr.mk b4 0 none), []) h_18)) 0 h_8))
theorem F9_eq : (fun (s0 : ByteArray) (stop0 : Int) (h : Heap) (Q : Value → Heap → Prop) => fnPT Try.prog Try.f9 (fun i => bif Nat.beq i 0 then annOne 7 (codI .i64) else bif Nat.beq i 2 then annOne 10 (codA) else annNil) (fun i => bif Nat.beq i 4 then [3, 26] else []) (fun i => bif Nat.beq i 22 then some ⟨[0, 1, 0, 0, 12, 28, 60, 127, 255], 256⟩ else none) [.string s0, .int .u8 stop0] h Q) = F9 := by kernel_rfl
theorem F9_ok {s0 : ByteArray} {stop0 : Int} {h : Heap} {Q : Value → Heap → Prop} (H : F9 s0 stop0 h Q) : CallsH Try.prog 9 [.string s0, .int .u8 stop0] h Q :=
  callsH_of (ann := fun i => bif Nat.beq i 0 then annOne 7 (codI .i64) else bif Nat.beq i 2 then annOne 10 (codA) else annNil) (tys := fun i => bif Nat.beq i 4 then [3, 26] else []) (pl := fun i => bif Nat.beq i 22 then some ⟨[0, 1, 0, 0, 12, 28, 60, 127, 255], 256⟩ else none) Try.func9 (by kernel_rfl) (by have e := F9_eq; exact (congrFun (congrFun (congrFun (congrFun (e) s0) stop0) h) Q).symm ▸ H)

/-- headgate/headgatelaw05.FrameCut -/
def F10 (l_0a : Option Addr) (l_0l : Nat) (l_0c : Nat) (cut0 : Int) (h : Heap) (Q : Value → Heap → Prop) : Prop :=
  CallsH Try.prog 19 [] h fun r0 h_0 =>
  DB r0 fun x0 =>
  (bif !x0 then
    Q (.bool false) h_0
  else
    LoopH (fun again0 (s0 : Sl × Int) h_1 =>
      (bif decide ((s0.2 : Int) < (l_0l : Int)) then
        (bif decide ((s0.2 : Int) < 20) then
          IdxA l_0a l_0l s0.2 1 fun a0 =>
          Ld h_1 a0 fun v0 => DS v0 fun x1 =>
          (bif decide ((((x1 : ByteArray).size : Int) : Int) > 300) then
            Q (.bool true) h_1
          else
            IdxA l_0a l_0l s0.2 1 fun a1 =>
            Ld h_1 a1 fun v1 => DS v1 fun x2 =>
            RunH Try.prog (Go.convert 9 26 (.string x2)) h_1 fun r1 h_2 =>
            DSl r1 fun x3a x3l x3c =>
            CallsH Try.prog 20 [.slice x3a x3l x3c] h_2 fun r2 h_3 =>
            ∃ (x4a : Option Addr), ∃ (x4l : Nat), ∃ (x4c : Nat), ∃ (x5 : Int), r2 = .tuple #[.slice x4a x4l x4c, .int .i64 x5] ∧
            (bif (x5 : Int) != 0 then
              Q (.bool false) h_3
            else
              RunH Try.prog (Builtin.append_ #[26, 26] 26 #[.slice s0.1.a s0.1.l s0.1.c, .slice x4a x4l x4c]) h_3 fun r3 h_4 =>
              DSl r3 fun b0a b0l b0c =>
              again0 (⟨b0a, b0l, b0c⟩, IntKind.wrap .i64 (s0.2 + 1)) h_4))
        else
          ((IntKind.wrap .i64 ((s0.1.l : Int) + 1)) : Int) ≠ 0 ∧
          SlV s0.1.a s0.1.c 1 0 (Int.tmod (IntKind.wrap .i64 cut0) (IntKind.wrap .i64 ((s0.1.l : Int) + 1))) (s0.1.c : Int) fun s1a s1l s1c =>
          CallsH Try.prog 24 [.slice s1a s1l s1c] h_1 fun r4 h_5 =>
          ∃ (x6a : Option Addr), ∃ (x6l : Nat), ∃ (x6c : Nat), ∃ (x7 : Int), r4 = .tuple #[.slice x6a x6l x6c, .int .i64 x7] ∧
          LoopH (fun again1 (s2 : Int × Int) h_6 =>
            (bif decide ((s2.2 : Int) < (l_0l : Int)) then
              (bif decide ((s2.2 : Int) < 20) then
                IdxA l_0a l_0l s2.2 1 fun a2 =>
                Ld h_6 a2 fun v2 => DS v2 fun x8 =>
                (bif decide (((IntKind.wrap .i64 ((IntKind.wrap .i64 (s2.1 + 8)) + ((x8 : ByteArray).size : Int))) : Int) > (Int.tmod (IntKind.wrap .i64 cut0) (IntKind.wrap .i64 ((s0.1.l : Int) + 1)))) then
                  (bif ((x6l : Int) : Int) == s2.2 then
                    Q (.bool ((x7 : Int) == s2.1)) h_6
                  else
                    Q (.bool false) h_6)
                else
                  (bif decide ((s2.2 : Int) ≥ (x6l : Int)) then
                    Q (.bool false) h_6
                  else
                    IdxA x6a x6l s2.2 1 fun a3 =>
                    Ld h_6 a3 fun v3 => DSl v3 fun x9a x9l x9c =>
                    ∃ bs0 : ByteArray, BytesIn h_6 x9a x9l bs0 ∧
                    IdxA l_0a l_0l s2.2 1 fun a4 =>
                    Ld h_6 a4 fun v4 => DS v4 fun x10 =>
                    (bif !strEq bs0 x10 then
                      Q (.bool false) h_6
                    else
                      IdxA l_0a l_0l s2.2 1 fun a5 =>
                      Ld h_6 a5 fun v5 => DS v5 fun x11 =>
                      again1 (IntKind.wrap .i64 ((IntKind.wrap .i64 (s2.1 + 8)) + ((x11 : ByteArray).size : Int)), IntKind.wrap .i64 (s2.2 + 1)) h_6)))
              else
                (bif (x7 : Int) == s2.1 then
                  Q (.bool (((x6l : Int) : Int) == (if (20 : Int) < (l_0l : Int) then 20 else (l_0l : Int)))) h_6
                else
                  Q (.bool false) h_6))
            else
              (bif (x7 : Int) == s2.1 then
                Q (.bool (((x6l : Int) : Int) == (if (20 : Int) < (l_0l : Int) then 20 else (l_0l : Int)))) h_6
              else
                Q (.bool false) h_6))) (0, 0) h_5)
      else
        ((IntKind.wrap .i64 ((s0.1.l : Int) + 1)) : Int) ≠ 0 ∧
        SlV s0.1.a s0.1.c 1 0 (Int.tmod (IntKind.wrap .i64 cut0) (IntKind.wrap .i64 ((s0.1.l : Int) + 1))) (s0.1.c : Int) fun s3a s3l s3c =>
        CallsH Try.prog 24 [.slice s3a s3l s3c] h_1 fun r5 h_7 =>
        ∃ (x12a : Option Addr), ∃ (x12l : Nat), ∃ (x12c : Nat), ∃ (x13 : Int), r5 = .tuple #[.slice x12a x12l x12c, .int .i64 x13] ∧
        LoopH (fun again2 (s4 : Int × Int) h_8 =>
          (bif decide ((s4.2 : Int) < (l_0l : Int)) then
            (bif decide ((s4.2 : Int) < 20) then
              IdxA l_0a l_0l s4.2 1 fun a6 =>
              Ld h_8 a6 fun v6 => DS v6 fun x14 =>
              (bif decide (((IntKind.wrap .i64 ((IntKind.wrap .i64 (s4.1 + 8)) + ((x14 : ByteArray).size : Int))) : Int) > (Int.tmod (IntKind.wrap .i64 cut0) (IntKind.wrap .i64 ((s0.1.l : Int) + 1)))) then
                (bif ((x12l : Int) : Int) == s4.2 then
                  Q (.bool ((x13 : Int) == s4.1)) h_8
                else
                  Q (.bool false) h_8)
              else
                (bif decide ((s4.2 : Int) ≥ (x12l : Int)) then
                  Q (.bool false) h_8
                else
                  IdxA x12a x12l s4.2 1 fun a7 =>
                  Ld h_8 a7 fun v7 => DSl v7 fun x15a x15l x15c =>
                  ∃ bs1 : ByteArray, BytesIn h_8 x15a x15l bs1 ∧
                  IdxA l_0a l_0l s4.2 1 fun a8 =>
                  Ld h_8 a8 fun v8 => DS v8 fun x16 =>
                  (bif !strEq bs1 x16 then
                    Q (.bool false) h_8
                  else
                    IdxA l_0a l_0l s4.2 1 fun a9 =>
                    Ld h_8 a9 fun v9 => DS v9 fun x17 =>
                    again2 (IntKind.wrap .i64 ((IntKind.wrap .i64 (s4.1 + 8)) + ((x17 : ByteArray).size : Int)), IntKind.wrap .i64 (s4.2 + 1)) h_8)))
            else
              (bif (x13 : Int) == s4.1 then
                Q (.bool (((x12l : Int) : Int) == (if (20 : Int) < (l_0l : Int) then 20 else (l_0l : Int)))) h_8
              else
                Q (.bool false) h_8))
          else
            (bif (x13 : Int) == s4.1 then
              Q (.bool (((x12l : Int) : Int) == (if (20 : Int) < (l_0l : Int) then 20 else (l_0l : Int)))) h_8
            else
              Q (.bool false) h_8))) (0, 0) h_7)) (⟨none, 0, 0⟩, 0) h_0)
theorem F10_eq : (fun (l_0a : Option Addr) (l_0l : Nat) (l_0c : Nat) (cut0 : Int) (h : Heap) (Q : Value → Heap → Prop) => fnPT Try.prog Try.f10 (fun i => bif Nat.beq i 0 then annCons 5 (codSl) (annOne 6 (codI .i64)) else bif Nat.beq i 2 then annCons 12 (codI .i64) (annOne 13 (codI .i64)) else annNil) (fun _ => []) (fun _ => none) [.slice l_0a l_0l l_0c, .int .u16 cut0] h Q) = F10 := by kernel_rfl
theorem F10_ok {l_0a : Option Addr} {l_0l : Nat} {l_0c : Nat} {cut0 : Int} {h : Heap} {Q : Value → Heap → Prop} (H : F10 l_0a l_0l l_0c cut0 h Q) : CallsH Try.prog 10 [.slice l_0a l_0l l_0c, .int .u16 cut0] h Q :=
  callsH_of (ann := fun i => bif Nat.beq i 0 then annCons 5 (codSl) (annOne 6 (codI .i64)) else bif Nat.beq i 2 then annCons 12 (codI .i64) (annOne 13 (codI .i64)) else annNil) (tys := fun _ => []) (pl := fun _ => none) Try.func10 (by kernel_rfl) (by have e := F10_eq; exact (congrFun (congrFun (congrFun (congrFun (congrFun (congrFun (e) l_0a) l_0l) l_0c) cut0) h) Q).symm ▸ H)

/-- headgate/headgatelaw05.FrameTurned -/
def F11 (s0 : ByteArray) (at_0 : Int) (turn0 : Int) (h : Heap) (Q : Value → Heap → Prop) : Prop :=
  CallsH Try.prog 19 [] h fun r0 h_0 =>
  DB r0 fun x0 =>
  (bif !x0 then
    Q (.bool false) h_0
  else
    (bif decide ((((s0 : ByteArray).size : Int) : Int) > 4000) then
      Q (.bool true) h_0
    else
      (bif (turn0 : Int) == 0 then
        Q (.bool true) h_0
      else
        RunH Try.prog (Go.convert 9 26 (.string s0)) h_0 fun r1 h_1 =>
        DSl r1 fun x1a x1l x1c =>
        CallsH Try.prog 20 [.slice x1a x1l x1c] h_1 fun r2 h_2 =>
        ∃ (x2a : Option Addr), ∃ (x2l : Nat), ∃ (x2c : Nat), ∃ (x3 : Int), r2 = .tuple #[.slice x2a x2l x2c, .int .i64 x3] ∧
        (bif (x3 : Int) != 0 then
          Q (.bool false) h_2
        else
          ((IntKind.wrap .i64 ((x2l : Int) - 4)) : Int) ≠ 0 ∧
          (bif decide (((IntKind.wrap .i64 (4 + (Int.tmod (IntKind.wrap .i64 at_0) (IntKind.wrap .i64 ((x2l : Int) - 4))))) : Int) < 8) then
            LoopH (fun again0 (s1 : Bool × Int) h_3 =>
              (bif decide ((s1.2 : Int) < 4) then
                (bif decide (((IntKind.wrap .i64 ((IntKind.wrap .i64 (4 + (Int.tmod (IntKind.wrap .i64 at_0) (IntKind.wrap .i64 ((x2l : Int) - 4))))) + s1.2)) : Int) < 8) then
                  0 ≤ ((IntKind.wrap .u64 (IntKind.wrap .i64 (8 * s1.2))) : Int) ∧
                  IdxA x2a x2l (IntKind.wrap .i64 ((IntKind.wrap .i64 (4 + (Int.tmod (IntKind.wrap .i64 at_0) (IntKind.wrap .i64 ((x2l : Int) - 4))))) + s1.2)) 1 fun a0 =>
                  Ld h_3 a0 fun v0 => DI .u8 v0 fun x4 =>
                  IdxA x2a x2l (IntKind.wrap .i64 ((IntKind.wrap .i64 (4 + (Int.tmod (IntKind.wrap .i64 at_0) (IntKind.wrap .i64 ((x2l : Int) - 4))))) + s1.2)) 1 fun a1 =>
                  StC h_3 (a1.add 0) (.int .u8 (bitsI .xor .u8 x4 (IntKind.wrap .u8 (shrI .u32 turn0 (IntKind.wrap .u64 (IntKind.wrap .i64 (8 * s1.2))))))) fun h_5 =>
                  (bif s1.1 then
                    again0 (true, IntKind.wrap .i64 (s1.2 + 1)) h_5
                  else
                    again0 (((IntKind.wrap .u8 (shrI .u32 turn0 (IntKind.wrap .u64 (IntKind.wrap .i64 (8 * s1.2))))) : Int) != 0, IntKind.wrap .i64 (s1.2 + 1)) h_5)
                else
                  CallsH Try.prog 22 [.slice x2a x2l x2c] h_3 fun r4 h_6 =>
                  ∃ (x5a : Option Addr), ∃ (x5l : Nat), ∃ (x5c : Nat), ∃ (x6 : Int), r4 = .tuple #[.slice x5a x5l x5c, .int .i64 x6] ∧
                  Q (.bool (((x6 : Int) == 0) == (!s1.1))) h_6)
              else
                CallsH Try.prog 22 [.slice x2a x2l x2c] h_3 fun r5 h_7 =>
                ∃ (x7a : Option Addr), ∃ (x7l : Nat), ∃ (x7c : Nat), ∃ (x8 : Int), r5 = .tuple #[.slice x7a x7l x7c, .int .i64 x8] ∧
                Q (.bool (((x8 : Int) == 0) == (!s1.1))) h_7)) (false, 0) h_2
          else
            LoopH (fun again1 (s2 : Bool × Int) h_8 =>
              (bif decide ((s2.2 : Int) < 4) then
                (bif decide (((IntKind.wrap .i64 ((IntKind.wrap .i64 (4 + (Int.tmod (IntKind.wrap .i64 at_0) (IntKind.wrap .i64 ((x2l : Int) - 4))))) + s2.2)) : Int) < (x2l : Int)) then
                  0 ≤ ((IntKind.wrap .u64 (IntKind.wrap .i64 (8 * s2.2))) : Int) ∧
                  IdxA x2a x2l (IntKind.wrap .i64 ((IntKind.wrap .i64 (4 + (Int.tmod (IntKind.wrap .i64 at_0) (IntKind.wrap .i64 ((x2l : Int) - 4))))) + s2.2)) 1 fun a2 =>
                  Ld h_8 a2 fun v1 => DI .u8 v1 fun x9 =>
                  IdxA x2a x2l (IntKind.wrap .i64 ((IntKind.wrap .i64 (4 + (Int.tmod (IntKind.wrap .i64 at_0) (IntKind.wrap .i64 ((x2l : Int) - 4))))) + s2.2)) 1 fun a3 =>
                  StC h_8 (a3.add 0) (.int .u8 (bitsI .xor .u8 x9 (IntKind.wrap .u8 (shrI .u32 turn0 (IntKind.wrap .u64 (IntKind.wrap .i64 (8 * s2.2))))))) fun h_10 =>
                  (bif s2.1 then
                    again1 (true, IntKind.wrap .i64 (s2.2 + 1)) h_10
                  else
                    again1 (((IntKind.wrap .u8 (shrI .u32 turn0 (IntKind.wrap .u64 (IntKind.wrap .i64 (8 * s2.2))))) : Int) != 0, IntKind.wrap .i64 (s2.2 + 1)) h_10)
                else
                  CallsH Try.prog 22 [.slice x2a x2l x2c] h_8 fun r7 h_11 =>
                  ∃ (x10a : Option Addr), ∃ (x10l : Nat), ∃ (x10c : Nat), ∃ (x11 : Int), r7 = .tuple #[.slice x10a x10l x10c, .int .i64 x11] ∧
                  Q (.bool (((x11 : Int) == 0) == (!s2.1))) h_11)
              else
                CallsH Try.prog 22 [.slice x2a x2l x2c] h_8 fun r8 h_12 =>
                ∃ (x12a : Option Addr), ∃ (x12l : Nat), ∃ (x12c : Nat), ∃ (x13 : Int), r8 = .tuple #[.slice x12a x12l x12c, .int .i64 x13] ∧
                Q (.bool (((x13 : Int) == 0) == (!s2.1))) h_12)) (false, 0) h_2)))))
theorem F11_eq : (fun (s0 : ByteArray) (at_0 : Int) (turn0 : Int) (h : Heap) (Q : Value → Heap → Prop) => fnPT Try.prog Try.f11 (fun i => bif Nat.beq i 0 then annCons 11 (codB) (annOne 12 (codI .i64)) else annNil) (fun _ => []) (fun _ => none) [.string s0, .int .u16 at_0, .int .u32 turn0] h Q) = F11 := by kernel_rfl
theorem F11_ok {s0 : ByteArray} {at_0 : Int} {turn0 : Int} {h : Heap} {Q : Value → Heap → Prop} (H : F11 s0 at_0 turn0 h Q) : CallsH Try.prog 11 [.string s0, .int .u16 at_0, .int .u32 turn0] h Q :=
  callsH_of (ann := fun i => bif Nat.beq i 0 then annCons 11 (codB) (annOne 12 (codI .i64)) else annNil) (tys := fun _ => []) (pl := fun _ => none) Try.func11 (by kernel_rfl) (by have e := F11_eq; exact (congrFun (congrFun (congrFun (congrFun (congrFun (e) s0) at_0) turn0) h) Q).symm ▸ H)

/-- headgate/headgatelaw05.FrameJoins -/
def F12 (l_0a : Option Addr) (l_0l : Nat) (l_0c : Nat) (rest0 : ByteArray) (h : Heap) (Q : Value → Heap → Prop) : Prop :=
  CallsH Try.prog 19 [] h fun r0 h_0 =>
  DB r0 fun x0 =>
  (bif !x0 then
    Q (.bool false) h_0
  else
    (bif decide (((l_0l : Int) : Int) > 60) then
      Q (.bool true) h_0
    else
      (bif decide ((((rest0 : ByteArray).size : Int) : Int) > 4000) then
        Q (.bool true) h_0
      else
        LoopH (fun again0 (s0 : Sl × Int) h_1 =>
          (bif decide ((s0.2 : Int) < (l_0l : Int)) then
            IdxA l_0a l_0l s0.2 1 fun a0 =>
            Ld h_1 a0 fun v0 => DS v0 fun x1 =>
            (bif decide ((((x1 : ByteArray).size : Int) : Int) > 300) then
              Q (.bool true) h_1
            else
              IdxA l_0a l_0l s0.2 1 fun a1 =>
              Ld h_1 a1 fun v1 => DS v1 fun x2 =>
              RunH Try.prog (Go.convert 9 26 (.string x2)) h_1 fun r1 h_2 =>
              DSl r1 fun x3a x3l x3c =>
              CallsH Try.prog 20 [.slice x3a x3l x3c] h_2 fun r2 h_3 =>
              ∃ (x4a : Option Addr), ∃ (x4l : Nat), ∃ (x4c : Nat), ∃ (x5 : Int), r2 = .tuple #[.slice x4a x4l x4c, .int .i64 x5] ∧
              (bif (x5 : Int) != 0 then
                Q (.bool false) h_3
              else
                RunH Try.prog (Builtin.append_ #[26, 26] 26 #[.slice s0.1.a s0.1.l s0.1.c, .slice x4a x4l x4c]) h_3 fun r3 h_4 =>
                DSl r3 fun b0a b0l b0c =>
                again0 (⟨b0a, b0l, b0c⟩, IntKind.wrap .i64 (s0.2 + 1)) h_4))
          else
            RunH Try.prog (Go.convert 9 26 (.string rest0)) h_1 fun r4 h_5 =>
            DSl r4 fun x6a x6l x6c =>
            CallsH Try.prog 24 [.slice x6a x6l x6c] h_5 fun r5 h_6 =>
            ∃ (x7a : Option Addr), ∃ (x7l : Nat), ∃ (x7c : Nat), ∃ (x8 : Int), r5 = .tuple #[.slice x7a x7l x7c, .int .i64 x8] ∧
            Al h_6 (.cells #[] 5) fun b1 h_7 =>
            RunH Try.prog (Builtin.append_ #[26, 26] 26 #[.slice (some (Addr.mk b1 0 none)) 0 0, .slice s0.1.a s0.1.l s0.1.c]) h_7 fun r7 h_8 =>
            DSl r7 fun x9a x9l x9c =>
            RunH Try.prog (Builtin.append_ #[26, 9] 26 #[.slice x9a x9l x9c, .string rest0]) h_8 fun r8 h_9 =>
            DSl r8 fun x10a x10l x10c =>
            CallsH Try.prog 24 [.slice x10a x10l x10c] h_9 fun r9 h_10 =>
            ∃ (x11a : Option Addr), ∃ (x11l : Nat), ∃ (x11c : Nat), ∃ (x12 : Int), r9 = .tuple #[.slice x11a x11l x11c, .int .i64 x12] ∧
            (bif ((x11l : Int) : Int) != (IntKind.wrap .i64 ((l_0l : Int) + (x7l : Int))) then
              Q (.bool false) h_10
            else
              (bif decide ((x12 : Int) < (s0.1.l : Int)) then
                Q (.bool false) h_10
              else
                (bif ((x7l : Int) : Int) == 0 then
                  (bif (x12 : Int) != (s0.1.l : Int) then
                    Q (.bool false) h_10
                  else
                    LoopH (fun again1 (s1 : Int) h_11 =>
                      (bif decide ((s1 : Int) < (l_0l : Int)) then
                        IdxA x11a x11l s1 1 fun a2 =>
                        Ld h_11 a2 fun v2 => DSl v2 fun x13a x13l x13c =>
                        ∃ bs0 : ByteArray, BytesIn h_11 x13a x13l bs0 ∧
                        IdxA l_0a l_0l s1 1 fun a3 =>
                        Ld h_11 a3 fun v3 => DS v3 fun x14 =>
                        (bif !strEq bs0 x14 then
                          Q (.bool false) h_11
                        else
                          again1 (IntKind.wrap .i64 (s1 + 1)) h_11)
                      else
                        LoopH (fun again2 (s2 : Int) h_12 =>
                          (bif decide ((s2 : Int) < (x7l : Int)) then
                            IdxA x11a x11l (IntKind.wrap .i64 ((l_0l : Int) + s2)) 1 fun a4 =>
                            Ld h_12 a4 fun v4 => DSl v4 fun x15a x15l x15c =>
                            ∃ bs1 : ByteArray, BytesIn h_12 x15a x15l bs1 ∧
                            IdxA x7a x7l s2 1 fun a5 =>
                            Ld h_12 a5 fun v5 => DSl v5 fun x16a x16l x16c =>
                            ∃ bs2 : ByteArray, BytesIn h_12 x16a x16l bs2 ∧
                            (bif !strEq bs1 bs2 then
                              Q (.bool false) h_12
                            else
                              again2 (IntKind.wrap .i64 (s2 + 1)) h_12)
                          else
                            Q (.bool true) h_12)) 0 h_11)) 0 h_10)
                else
                  LoopH (fun again3 (s3 : Int) h_13 =>
                    (bif decide ((s3 : Int) < (l_0l : Int)) then
                      IdxA x11a x11l s3 1 fun a6 =>
                      Ld h_13 a6 fun v6 => DSl v6 fun x17a x17l x17c =>
                      ∃ bs3 : ByteArray, BytesIn h_13 x17a x17l bs3 ∧
                      IdxA l_0a l_0l s3 1 fun a7 =>
                      Ld h_13 a7 fun v7 => DS v7 fun x18 =>
                      (bif !strEq bs3 x18 then
                        Q (.bool false) h_13
                      else
                        again3 (IntKind.wrap .i64 (s3 + 1)) h_13)
                    else
                      LoopH (fun again4 (s4 : Int) h_14 =>
                        (bif decide ((s4 : Int) < (x7l : Int)) then
                          IdxA x11a x11l (IntKind.wrap .i64 ((l_0l : Int) + s4)) 1 fun a8 =>
                          Ld h_14 a8 fun v8 => DSl v8 fun x19a x19l x19c =>
                          ∃ bs4 : ByteArray, BytesIn h_14 x19a x19l bs4 ∧
                          IdxA x7a x7l s4 1 fun a9 =>
                          Ld h_14 a9 fun v9 => DSl v9 fun x20a x20l x20c =>
                          ∃ bs5 : ByteArray, BytesIn h_14 x20a x20l bs5 ∧
                          (bif !strEq bs4 bs5 then
                            Q (.bool false) h_14
                          else
                            again4 (IntKind.wrap .i64 (s4 + 1)) h_14)
                        else
                          Q (.bool true) h_14)) 0 h_13)) 0 h_10))))) (⟨none, 0, 0⟩, 0) h_0)))
theorem F12_eq : (fun (l_0a : Option Addr) (l_0l : Nat) (l_0c : Nat) (rest0 : ByteArray) (h : Heap) (Q : Value → Heap → Prop) => fnPT Try.prog Try.f12 (fun i => bif Nat.beq i 0 then annCons 5 (codSl) (annOne 6 (codI .i64)) else bif Nat.beq i 2 then annOne 13 (codI .i64) else bif Nat.beq i 4 then annOne 14 (codI .i64) else annNil) (fun _ => []) (fun _ => none) [.slice l_0a l_0l l_0c, .string rest0] h Q) = F12 := by kernel_rfl
theorem F12_ok {l_0a : Option Addr} {l_0l : Nat} {l_0c : Nat} {rest0 : ByteArray} {h : Heap} {Q : Value → Heap → Prop} (H : F12 l_0a l_0l l_0c rest0 h Q) : CallsH Try.prog 12 [.slice l_0a l_0l l_0c, .string rest0] h Q :=
  callsH_of (ann := fun i => bif Nat.beq i 0 then annCons 5 (codSl) (annOne 6 (codI .i64)) else bif Nat.beq i 2 then annOne 13 (codI .i64) else bif Nat.beq i 4 then annOne 14 (codI .i64) else annNil) (tys := fun _ => []) (pl := fun _ => none) Try.func12 (by kernel_rfl) (by have e := F12_eq; exact (congrFun (congrFun (congrFun (congrFun (congrFun (congrFun (e) l_0a) l_0l) l_0c) rest0) h) Q).symm ▸ H)

/-- headgate/headgatelaw02.alive -/
def F13 (h : Heap) (Q : Value → Heap → Prop) : Prop :=
  CallsH Try.prog 15 [.string ⟨#[49, 50, 51, 52, 53, 54, 55, 56, 57]⟩] h fun r0 h_0 =>
  DI .u32 r0 fun x0 =>
  Q (.bool ((x0 : Int) == 3808858755)) h_0
theorem F13_eq : (fun (h : Heap) (Q : Value → Heap → Prop) => fnPT Try.prog Try.f13 (fun _ => annNil) (fun _ => []) (fun _ => none) [] h Q) = F13 := by kernel_rfl
theorem F13_ok {h : Heap} {Q : Value → Heap → Prop} (H : F13 h Q) : CallsH Try.prog 13 [] h Q :=
  callsH_of (ann := fun _ => annNil) (tys := fun _ => []) (pl := fun _ => none) Try.func13 (by kernel_rfl) (by have e := F13_eq; exact (congrFun (congrFun (e) h) Q).symm ▸ H)

/-- headgate/headgateref02.Of -/
def F14 (b0 : ByteArray) (h : Heap) (Q : Value → Heap → Prop) : Prop :=
  LoopH (fun again0 (s0 : Int × Int) h_0 =>
    (bif decide ((s0.2 : Int) < ((b0 : ByteArray).size : Int)) then
      0 ≤ (s0.2 : Int) ∧ (s0.2 : Int) < ((b0 : ByteArray).size : Int) ∧
      LoopH (fun again1 (s1 : Int × Int) h_1 =>
        (bif decide ((s1.2 : Int) < 8) then
          (2 : Int) ≠ 0 ∧
          (2 : Int) ≠ 0 ∧
          (bif ((Int.tmod s1.1 2) : Int) == 1 then
            again1 (bitsI .xor .u64 (IntKind.wrap .u64 (Int.tdiv s1.1 2)) 2197175160, IntKind.wrap .i64 (s1.2 + 1)) h_1
          else
            again1 (IntKind.wrap .u64 (Int.tdiv s1.1 2), IntKind.wrap .i64 (s1.2 + 1)) h_1)
        else
          again0 (s1.1, IntKind.wrap .i64 (s0.2 + 1)) h_1)) (bitsI .xor .u64 s0.1 (IntKind.wrap .u64 (bt b0 s0.2)), 0) h_0
    else
      Q (.int .u32 (IntKind.wrap .u32 (bitsI .xor .u64 s0.1 4294967295))) h_0)) (4294967295, 0) h
theorem F14_eq : (fun (b0 : ByteArray) (h : Heap) (Q : Value → Heap → Prop) => fnPT Try.prog Try.f14 (fun i => bif Nat.beq i 0 then annCons 3 (codI .u64) (annOne 4 (codI .i64)) else bif Nat.beq i 2 then annCons 3 (codI .u64) (annOne 5 (codI .i64)) else annNil) (fun _ => []) (fun _ => none) [.string b0] h Q) = F14 := by kernel_rfl
theorem F14_ok {b0 : ByteArray} {h : Heap} {Q : Value → Heap → Prop} (H : F14 b0 h Q) : CallsH Try.prog 14 [.string b0] h Q :=
  callsH_of (ann := fun i => bif Nat.beq i 0 then annCons 3 (codI .u64) (annOne 4 (codI .i64)) else bif Nat.beq i 2 then annCons 3 (codI .u64) (annOne 5 (codI .i64)) else annNil) (tys := fun _ => []) (pl := fun _ => none) Try.func14 (by kernel_rfl) (by have e := F14_eq; exact (congrFun (congrFun (congrFun (e) b0) h) Q).symm ▸ H)

/-- headgate/crc.Of[string] -/
def F15 (b0 : ByteArray) (h : Heap) (Q : Value → Heap → Prop) : Prop :=
  CallsH Try.prog 17 [.int .u32 0, .string b0] h fun r0 h_0 =>
  DI .u32 r0 fun x0 =>
  Q (.int .u32 x0) h_0
theorem F15_eq : (fun (b0 : ByteArray) (h : Heap) (Q : Value → Heap → Prop) => fnPT Try.prog Try.f15 (fun _ => annNil) (fun _ => []) (fun _ => none) [.string b0] h Q) = F15 := by kernel_rfl
theorem F15_ok {b0 : ByteArray} {h : Heap} {Q : Value → Heap → Prop} (H : F15 b0 h Q) : CallsH Try.prog 15 [.string b0] h Q :=
  callsH_of (ann := fun _ => annNil) (tys := fun _ => []) (pl := fun _ => none) Try.func15 (by kernel_rfl) (by have e := F15_eq; exact (congrFun (congrFun (congrFun (e) b0) h) Q).symm ▸ H)

/-- headgate/crc.Of[[]byte] -/
def F16 (b0a : Option Addr) (b0l : Nat) (b0c : Nat) (h : Heap) (Q : Value → Heap → Prop) : Prop :=
  CallsH Try.prog 18 [.int .u32 0, .slice b0a b0l b0c] h fun r0 h_0 =>
  DI .u32 r0 fun x0 =>
  Q (.int .u32 x0) h_0
theorem F16_eq : (fun (b0a : Option Addr) (b0l : Nat) (b0c : Nat) (h : Heap) (Q : Value → Heap → Prop) => fnPT Try.prog Try.f16 (fun _ => annNil) (fun _ => []) (fun _ => none) [.slice b0a b0l b0c] h Q) = F16 := by kernel_rfl
theorem F16_ok {b0a : Option Addr} {b0l : Nat} {b0c : Nat} {h : Heap} {Q : Value → Heap → Prop} (H : F16 b0a b0l b0c h Q) : CallsH Try.prog 16 [.slice b0a b0l b0c] h Q :=
  callsH_of (ann := fun _ => annNil) (tys := fun _ => []) (pl := fun _ => none) Try.func16 (by kernel_rfl) (by have e := F16_eq; exact (congrFun (congrFun (congrFun (congrFun (congrFun (e) b0a) b0l) b0c) h) Q).symm ▸ H)

/-- headgate/crc.More[string] -/
def F17 (sum0 : Int) (b0 : ByteArray) (h : Heap) (Q : Value → Heap → Prop) : Prop :=
  LoopH (fun again0 (s0 : Int × Int) h_0 =>
    (bif decide ((s0.2 : Int) < ((b0 : ByteArray).size : Int)) then
      0 ≤ (s0.2 : Int) ∧ (s0.2 : Int) < ((b0 : ByteArray).size : Int) ∧
      LoopH (fun again1 (s1 : Int × Int) h_1 =>
        (bif decide ((s1.2 : Int) < 8) then
          0 ≤ (1 : Int) ∧
          again1 (bitsI .xor .u32 (shrI .u32 s1.1 1) (bitsI .and .u32 2197175160 (IntKind.wrap .u32 (0 - (bitsI .and .u32 s1.1 1)))), IntKind.wrap .i64 (s1.2 + 1)) h_1
        else
          again0 (s1.1, IntKind.wrap .i64 (s0.2 + 1)) h_1)) (bitsI .xor .u32 s0.1 (IntKind.wrap .u32 (bt b0 s0.2)), 0) h_0
    else
      Q (.int .u32 (bitsI .xor .u32 4294967295 s0.1)) h_0)) (bitsI .xor .u32 4294967295 sum0, 0) h
theorem F17_eq : (fun (sum0 : Int) (b0 : ByteArray) (h : Heap) (Q : Value → Heap → Prop) => fnPT Try.prog Try.f17 (fun i => bif Nat.beq i 0 then annCons 5 (codI .u32) (annOne 11 (codI .i64)) else bif Nat.beq i 2 then annCons 5 (codI .u32) (annOne 20 (codI .i64)) else annNil) (fun _ => []) (fun _ => none) [.int .u32 sum0, .string b0] h Q) = F17 := by kernel_rfl
theorem F17_ok {sum0 : Int} {b0 : ByteArray} {h : Heap} {Q : Value → Heap → Prop} (H : F17 sum0 b0 h Q) : CallsH Try.prog 17 [.int .u32 sum0, .string b0] h Q :=
  callsH_of (ann := fun i => bif Nat.beq i 0 then annCons 5 (codI .u32) (annOne 11 (codI .i64)) else bif Nat.beq i 2 then annCons 5 (codI .u32) (annOne 20 (codI .i64)) else annNil) (tys := fun _ => []) (pl := fun _ => none) Try.func17 (by kernel_rfl) (by have e := F17_eq; exact (congrFun (congrFun (congrFun (congrFun (e) sum0) b0) h) Q).symm ▸ H)

/-- headgate/crc.More[[]byte] -/
def F18 (sum0 : Int) (b0a : Option Addr) (b0l : Nat) (b0c : Nat) (h : Heap) (Q : Value → Heap → Prop) : Prop :=
  LoopH (fun again0 (s0 : Int × Int) h_0 =>
    (bif decide ((s0.2 : Int) < (b0l : Int)) then
      IdxA b0a b0l s0.2 1 fun a0 =>
      Ld h_0 a0 fun v0 => DI .u8 v0 fun x0 =>
      LoopH (fun again1 (s1 : Int × Int) h_1 =>
        (bif decide ((s1.2 : Int) < 8) then
          0 ≤ (1 : Int) ∧
          again1 (bitsI .xor .u32 (shrI .u32 s1.1 1) (bitsI .and .u32 2197175160 (IntKind.wrap .u32 (0 - (bitsI .and .u32 s1.1 1)))), IntKind.wrap .i64 (s1.2 + 1)) h_1
        else
          again0 (s1.1, IntKind.wrap .i64 (s0.2 + 1)) h_1)) (bitsI .xor .u32 s0.1 (IntKind.wrap .u32 x0), 0) h_0
    else
      Q (.int .u32 (bitsI .xor .u32 4294967295 s0.1)) h_0)) (bitsI .xor .u32 4294967295 sum0, 0) h
theorem F18_eq : (fun (sum0 : Int) (b0a : Option Addr) (b0l : Nat) (b0c : Nat) (h : Heap) (Q : Value → Heap → Prop) => fnPT Try.prog Try.f18 (fun i => bif Nat.beq i 0 then annCons 5 (codI .u32) (annOne 11 (codI .i64)) else bif Nat.beq i 2 then annCons 5 (codI .u32) (annOne 21 (codI .i64)) else annNil) (fun _ => []) (fun _ => none) [.int .u32 sum0, .slice b0a b0l b0c] h Q) = F18 := by kernel_rfl
theorem F18_ok {sum0 : Int} {b0a : Option Addr} {b0l : Nat} {b0c : Nat} {h : Heap} {Q : Value → Heap → Prop} (H : F18 sum0 b0a b0l b0c h Q) : CallsH Try.prog 18 [.int .u32 sum0, .slice b0a b0l b0c] h Q :=
  callsH_of (ann := fun i => bif Nat.beq i 0 then annCons 5 (codI .u32) (annOne 11 (codI .i64)) else bif Nat.beq i 2 then annCons 5 (codI .u32) (annOne 21 (codI .i64)) else annNil) (tys := fun _ => []) (pl := fun _ => none) Try.func18 (by kernel_rfl) (by have e := F18_eq; exact (congrFun (congrFun (congrFun (congrFun (congrFun (congrFun (e) sum0) b0a) b0l) b0c) h) Q).symm ▸ H)

/-- headgate/headgatelaw05.alive -/
def F19 (h : Heap) (Q : Value → Heap → Prop) : Prop :=
  Al h (.cells #[.int .u8 97, .int .u8 98] 5) fun b0 h_0 =>
  RunH Try.prog (Go.convert 26 26 (.slice (some (Addr.mk b0 0 none)) 2 2)) h_0 fun r1 h_1 =>
  DSl r1 fun x0a x0l x0c =>
  CallsH Try.prog 20 [.slice x0a x0l x0c] h_1 fun r2 h_2 =>
  ∃ (x1a : Option Addr), ∃ (x1l : Nat), ∃ (x1c : Nat), ∃ (x2 : Int), r2 = .tuple #[.slice x1a x1l x1c, .int .i64 x2] ∧
  (bif (x2 : Int) != 0 then
    Q (.bool false) h_2
  else
    (bif ((x1l : Int) : Int) != 10 then
      Q (.bool false) h_2
    else
      CallsH Try.prog 22 [.slice x1a x1l x1c] h_2 fun r3 h_3 =>
      ∃ (x3a : Option Addr), ∃ (x3l : Nat), ∃ (x3c : Nat), ∃ (x4 : Int), r3 = .tuple #[.slice x3a x3l x3c, .int .i64 x4] ∧
      Al h_3 (.cells #[.int .u8 7] 5) fun b1 h_4 =>
      RunH Try.prog (Builtin.append_ #[26, 26] 26 #[.slice x1a x1l x1c, .slice (some (Addr.mk b1 0 none)) 1 1]) h_4 fun r5 h_5 =>
      DSl r5 fun x5a x5l x5c =>
      CallsH Try.prog 24 [.slice x5a x5l x5c] h_5 fun r6 h_6 =>
      ∃ (x6a : Option Addr), ∃ (x6l : Nat), ∃ (x6c : Nat), ∃ (x7 : Int), r6 = .tuple #[.slice x6a x6l x6c, .int .i64 x7] ∧
      (bif (x4 : Int) == 0 then
        ∃ bs0 : ByteArray, BytesIn h_6 x3a x3l bs0 ∧
        (bif strEq bs0 ⟨#[97, 98]⟩ then
          (bif ((x6l : Int) : Int) == 1 then
            Q (.bool ((x7 : Int) == 10)) h_6
          else
            Q (.bool false) h_6)
        else
          Q (.bool false) h_6)
      else
        Q (.bool false) h_6)))
theorem F19_eq : (fun (h : Heap) (Q : Value → Heap → Prop) => fnPT Try.prog Try.f19 (fun _ => annNil) (fun _ => []) (fun _ => none) [] h Q) = F19 := by kernel_rfl
theorem F19_ok {h : Heap} {Q : Value → Heap → Prop} (H : F19 h Q) : CallsH Try.prog 19 [] h Q :=
  callsH_of (ann := fun _ => annNil) (tys := fun _ => []) (pl := fun _ => none) Try.func19 (by kernel_rfl) (by have e := F19_eq; exact (congrFun (congrFun (e) h) Q).symm ▸ H)

/-- headgate/frame.Pack -/
def F20 (b0a : Option Addr) (b0l : Nat) (b0c : Nat) (h : Heap) (Q : Value → Heap → Prop) : Prop :=
  (bif decide (((b0l : Int) : Int) > 16777208) then
    Q (.tuple #[.slice none 0 0, .int .i64 50]) h
  else
    CallsH Try.prog 28 [.int .u32 (IntKind.wrap .u32 (b0l : Int))] h fun r0 h_0 =>
    DSl r0 fun n0a n0l n0c =>
    CallsH Try.prog 16 [.slice n0a n0l n0c] h_0 fun r1 h_1 =>
    DI .u32 r1 fun x0 =>
    CallsH Try.prog 18 [.int .u32 x0, .slice b0a b0l b0c] h_1 fun r2 h_2 =>
    DI .u32 r2 fun x1 =>
    CallsH Try.prog 28 [.int .u32 x1] h_2 fun r3 h_3 =>
    DSl r3 fun x2a x2l x2c =>
    RunH Try.prog (Builtin.append_ #[26, 26] 26 #[.slice n0a n0l n0c, .slice x2a x2l x2c]) h_3 fun r4 h_4 =>
    DSl r4 fun x3a x3l x3c =>
    RunH Try.prog (Builtin.append_ #[26, 26] 26 #[.slice x3a x3l x3c, .slice b0a b0l b0c]) h_4 fun r5 h_5 =>
    DSl r5 fun x4a x4l x4c =>
    Q (.tuple #[.slice x4a x4l x4c, .int .i64 0]) h_5)
theorem F20_eq : (fun (b0a : Option Addr) (b0l : Nat) (b0c : Nat) (h : Heap) (Q : Value → Heap → Prop) => fnPT Try.prog Try.f20 (fun _ => annNil) (fun _ => []) (fun _ => none) [.slice b0a b0l b0c] h Q) = F20 := by kernel_rfl
theorem F20_ok {b0a : Option Addr} {b0l : Nat} {b0c : Nat} {h : Heap} {Q : Value → Heap → Prop} (H : F20 b0a b0l b0c h Q) : CallsH Try.prog 20 [.slice b0a b0l b0c] h Q :=
  callsH_of (ann := fun _ => annNil) (tys := fun _ => []) (pl := fun _ => none) Try.func20 (by kernel_rfl) (by have e := F20_eq; exact (congrFun (congrFun (congrFun (congrFun (congrFun (e) b0a) b0l) b0c) h) Q).symm ▸ H)

/-- headgate/headgateref05.Pack -/
def F21 (s0 : ByteArray) (h : Heap) (Q : Value → Heap → Prop) : Prop :=
  (bif decide ((((s0 : ByteArray).size : Int) : Int) > 16777208) then
    Q (.tuple #[.string .empty, .int .i64 50]) h
  else
    CallsH Try.prog 29 [.int .u32 (IntKind.wrap .u32 ((s0 : ByteArray).size : Int))] h fun r0 h_0 =>
    DS r0 fun n0 =>
    (n0 : ByteArray).size + (s0 : ByteArray).size ≤ 9223372036854775807 ∧
    CallsH Try.prog 14 [.string (n0 ++ s0)] h_0 fun r1 h_1 =>
    DI .u32 r1 fun x0 =>
    CallsH Try.prog 29 [.int .u32 x0] h_1 fun r2 h_2 =>
    DS r2 fun x1 =>
    (n0 : ByteArray).size + (x1 : ByteArray).size ≤ 9223372036854775807 ∧
    (n0 ++ x1 : ByteArray).size + (s0 : ByteArray).size ≤ 9223372036854775807 ∧
    Q (.tuple #[.string ((n0 ++ x1) ++ s0), .int .i64 0]) h_2)
theorem F21_eq : (fun (s0 : ByteArray) (h : Heap) (Q : Value → Heap → Prop) => fnPT Try.prog Try.f21 (fun _ => annNil) (fun _ => []) (fun _ => none) [.string s0] h Q) = F21 := by kernel_rfl
theorem F21_ok {s0 : ByteArray} {h : Heap} {Q : Value → Heap → Prop} (H : F21 s0 h Q) : CallsH Try.prog 21 [.string s0] h Q :=
  callsH_of (ann := fun _ => annNil) (tys := fun _ => []) (pl := fun _ => none) Try.func21 (by kernel_rfl) (by have e := F21_eq; exact (congrFun (congrFun (congrFun (e) s0) h) Q).symm ▸ H)

/-- headgate/frame.One -/
def F22 (b0a : Option Addr) (b0l : Nat) (b0c : Nat) (h : Heap) (Q : Value → Heap → Prop) : Prop :=
  CallsH Try.prog 30 [.slice b0a b0l b0c] h fun r0 h_0 =>
  ∃ (x0a : Option Addr), ∃ (x0l : Nat), ∃ (x0c : Nat), ∃ (x1 : Bool), r0 = .tuple #[.slice x0a x0l x0c, .bool x1] ∧
  (bif !x1 then
    Q (.tuple #[.slice none 0 0, .int .i64 52]) h_0
  else
    (bif ((IntKind.wrap .i64 ((x0l : Int) + 8)) : Int) != (b0l : Int) then
      Q (.tuple #[.slice none 0 0, .int .i64 52]) h_0
    else
      RunH Try.prog (Builtin.append_ #[26, 26] 26 #[.slice none 0 0, .slice x0a x0l x0c]) h_0 fun r1 h_1 =>
      DSl r1 fun x2a x2l x2c =>
      Q (.tuple #[.slice x2a x2l x2c, .int .i64 0]) h_1))
theorem F22_eq : (fun (b0a : Option Addr) (b0l : Nat) (b0c : Nat) (h : Heap) (Q : Value → Heap → Prop) => fnPT Try.prog Try.f22 (fun _ => annNil) (fun _ => []) (fun _ => none) [.slice b0a b0l b0c] h Q) = F22 := by kernel_rfl
theorem F22_ok {b0a : Option Addr} {b0l : Nat} {b0c : Nat} {h : Heap} {Q : Value → Heap → Prop} (H : F22 b0a b0l b0c h Q) : CallsH Try.prog 22 [.slice b0a b0l b0c] h Q :=
  callsH_of (ann := fun _ => annNil) (tys := fun _ => []) (pl := fun _ => none) Try.func22 (by kernel_rfl) (by have e := F22_eq; exact (congrFun (congrFun (congrFun (congrFun (congrFun (e) b0a) b0l) b0c) h) Q).symm ▸ H)

/-- headgate/headgateref05.At -/
def F23 (s0 : ByteArray) (at_0 : Int) (h : Heap) (Q : Value → Heap → Prop) : Prop :=
  (bif decide ((at_0 : Int) < 0) then
    Q (.tuple #[.string .empty, .bool false]) h
  else
    (bif decide (((IntKind.wrap .i64 (((s0 : ByteArray).size : Int) - at_0)) : Int) < 8) then
      Q (.tuple #[.string .empty, .bool false]) h
    else
      0 ≤ (at_0 : Int) ∧ (at_0 : Int) < ((s0 : ByteArray).size : Int) ∧
      0 ≤ (IntKind.wrap .i64 (at_0 + 1) : Int) ∧ (IntKind.wrap .i64 (at_0 + 1) : Int) < ((s0 : ByteArray).size : Int) ∧
      0 ≤ (IntKind.wrap .i64 (at_0 + 2) : Int) ∧ (IntKind.wrap .i64 (at_0 + 2) : Int) < ((s0 : ByteArray).size : Int) ∧
      0 ≤ (IntKind.wrap .i64 (at_0 + 3) : Int) ∧ (IntKind.wrap .i64 (at_0 + 3) : Int) < ((s0 : ByteArray).size : Int) ∧
      (bif decide (((IntKind.wrap .u64 ((IntKind.wrap .u64 ((IntKind.wrap .u64 ((IntKind.wrap .u64 ((IntKind.wrap .u64 (bt s0 at_0)) * 16777216)) + (IntKind.wrap .u64 ((IntKind.wrap .u64 (bt s0 (IntKind.wrap .i64 (at_0 + 1)))) * 65536)))) + (IntKind.wrap .u64 ((IntKind.wrap .u64 (bt s0 (IntKind.wrap .i64 (at_0 + 2)))) * 256)))) + (IntKind.wrap .u64 (bt s0 (IntKind.wrap .i64 (at_0 + 3)))))) : Int) > (IntKind.wrap .u64 (IntKind.wrap .i64 ((IntKind.wrap .i64 (((s0 : ByteArray).size : Int) - at_0)) - 8)))) then
        Q (.tuple #[.string .empty, .bool false]) h
      else
        SlS s0 (IntKind.wrap .i64 (at_0 + 8)) (IntKind.wrap .i64 ((IntKind.wrap .i64 (at_0 + 8)) + (IntKind.wrap .i64 (IntKind.wrap .u64 ((IntKind.wrap .u64 ((IntKind.wrap .u64 ((IntKind.wrap .u64 ((IntKind.wrap .u64 (bt s0 at_0)) * 16777216)) + (IntKind.wrap .u64 ((IntKind.wrap .u64 (bt s0 (IntKind.wrap .i64 (at_0 + 1)))) * 65536)))) + (IntKind.wrap .u64 ((IntKind.wrap .u64 (bt s0 (IntKind.wrap .i64 (at_0 + 2)))) * 256)))) + (IntKind.wrap .u64 (bt s0 (IntKind.wrap .i64 (at_0 + 3))))))))) fun s1 =>
        CallsH Try.prog 21 [.string s1] h fun r0 h_0 =>
        ∃ (x0 : ByteArray), ∃ (x1 : Int), r0 = .tuple #[.string x0, .int .i64 x1] ∧
        (bif (x1 : Int) == 0 then
          SlS s0 at_0 (IntKind.wrap .i64 ((IntKind.wrap .i64 (at_0 + 8)) + (IntKind.wrap .i64 (IntKind.wrap .u64 ((IntKind.wrap .u64 ((IntKind.wrap .u64 ((IntKind.wrap .u64 ((IntKind.wrap .u64 (bt s0 at_0)) * 16777216)) + (IntKind.wrap .u64 ((IntKind.wrap .u64 (bt s0 (IntKind.wrap .i64 (at_0 + 1)))) * 65536)))) + (IntKind.wrap .u64 ((IntKind.wrap .u64 (bt s0 (IntKind.wrap .i64 (at_0 + 2)))) * 256)))) + (IntKind.wrap .u64 (bt s0 (IntKind.wrap .i64 (at_0 + 3))))))))) fun s2 =>
          Q (.tuple #[.string s1, .bool (strEq x0 s2)]) h_0
        else
          Q (.tuple #[.string s1, .bool false]) h_0))))
theorem F23_eq : (fun (s0 : ByteArray) (at_0 : Int) (h : Heap) (Q : Value → Heap → Prop) => fnPT Try.prog Try.f23 (fun _ => annNil) (fun _ => []) (fun _ => none) [.string s0, .int .i64 at_0] h Q) = F23 := by kernel_rfl
theorem F23_ok {s0 : ByteArray} {at_0 : Int} {h : Heap} {Q : Value → Heap → Prop} (H : F23 s0 at_0 h Q) : CallsH Try.prog 23 [.string s0, .int .i64 at_0] h Q :=
  callsH_of (ann := fun _ => annNil) (tys := fun _ => []) (pl := fun _ => none) Try.func23 (by kernel_rfl) (by have e := F23_eq; exact (congrFun (congrFun (congrFun (congrFun (e) s0) at_0) h) Q).symm ▸ H)

/-- headgate/frame.Scan -/
def F24 (b0a : Option Addr) (b0l : Nat) (b0c : Nat) (h : Heap) (Q : Value → Heap → Prop) : Prop :=
  Al h (.cells #[.slice none 0 0] 43) fun b1 h_0 =>
  Al h_0 (.cells #[.int .i64 0] 3) fun b2 h_1 =>
  StC h_1 ((Addr.mk b2 0 none).add 0) (.int .i64 0) fun h_3 =>
  CallsH Try.prog 27 [.slice b0a b0l b0c] h_3 fun r3 h_4 =>
  ∃ (x0 : Value), r3 = x0 ∧
  RangeFn Try.prog x0 2 none h_4 (fun l_0 rec_0 args0 h_5 Q_0 =>
    ∃ (y0 : Int), ∃ (y1a : Option Addr), ∃ (y1l : Nat), ∃ (y1c : Nat), args0 = [.int .i64 y0, .slice y1a y1l y1c] ∧
    h_5[l_0]? = some (rec_0 .ready none) ∧
    Ld (h_5.setIfInBounds l_0 (rec_0 .busy none)) (Addr.mk b1 0 none) fun v0 => DSl v0 fun x1a x1l x1c =>
    Al (h_5.setIfInBounds l_0 (rec_0 .busy none)) (.cells #[.slice y1a y1l y1c] 26) fun b3 h_6 =>
    RunH Try.prog (Builtin.append_ #[43, 43] 43 #[.slice x1a x1l x1c, .slice (some (Addr.mk b3 0 none)) 1 1]) h_6 fun r5 h_7 =>
    DSl r5 fun x2a x2l x2c =>
    StC h_7 ((Addr.mk b1 0 none).add 0) (.slice x2a x2l x2c) fun h_9 =>
    StC h_9 ((Addr.mk b2 0 none).add 0) (.int .i64 (IntKind.wrap .i64 ((IntKind.wrap .i64 (y0 + 8)) + (y1l : Int)))) fun h_11 =>
    h_11[l_0]? = some (rec_0 .busy none) ∧ Q_0 (.bool true) (h_11.setIfInBounds l_0 (rec_0 .ready none))) (fun pend0 h_12 =>
    pend0 = none ∧
    Ld h_12 (Addr.mk b1 0 none) fun v1 => DSl v1 fun x3a x3l x3c =>
    Ld h_12 (Addr.mk b2 0 none) fun v2 => DI .i64 v2 fun x4 =>
    h_12[h_4.size]? = some (.deferred (some [])) ∧
    Q (.tuple #[.slice x3a x3l x3c, .int .i64 x4]) (h_12.setIfInBounds h_4.size (.deferred none)))
theorem F24_eq : (fun (b0a : Option Addr) (b0l : Nat) (b0c : Nat) (h : Heap) (Q : Value → Heap → Prop) => fnPT Try.prog Try.f24 (fun _ => annNil) (fun i => bif Nat.beq i 0 then [3, 26] else []) (fun _ => none) [.slice b0a b0l b0c] h Q) = F24 := by kernel_rfl
theorem F24_ok {b0a : Option Addr} {b0l : Nat} {b0c : Nat} {h : Heap} {Q : Value → Heap → Prop} (H : F24 b0a b0l b0c h Q) : CallsH Try.prog 24 [.slice b0a b0l b0c] h Q :=
  callsH_of (ann := fun _ => annNil) (tys := fun i => bif Nat.beq i 0 then [3, 26] else []) (pl := fun _ => none) Try.func24 (by kernel_rfl) (by have e := F24_eq; exact (congrFun (congrFun (congrFun (congrFun (congrFun (e) b0a) b0l) b0c) h) Q).symm ▸ H)

/-- headgate/headgateref05.Scan -/
def F25 (s0 : ByteArray) (h : Heap) (Q : Value → Heap → Prop) : Prop :=
  LoopH (fun again0 (s1 : Sl × Int × Int) h_0 =>
    (bif decide ((s1.2.2 : Int) ≤ ((s0 : ByteArray).size : Int)) then
      CallsH Try.prog 23 [.string s0, .int .i64 s1.2.1] h_0 fun r0 h_1 =>
      ∃ (x0 : ByteArray), ∃ (x1 : Bool), r0 = .tuple #[.string x0, .bool x1] ∧
      (bif !x1 then
        Q (.tuple #[.slice s1.1.a s1.1.l s1.1.c, .int .i64 s1.2.1]) h_1
      else
        Al h_1 (.cells #[.string x0] 9) fun b0 h_2 =>
        RunH Try.prog (Builtin.append_ #[46, 46] 46 #[.slice s1.1.a s1.1.l s1.1.c, .slice (some (Addr.mk b0 0 none)) 1 1]) h_2 fun r2 h_3 =>
        DSl r2 fun l_0a l_0l l_0c =>
        again0 (⟨l_0a, l_0l, l_0c⟩, IntKind.wrap .i64 ((IntKind.wrap .i64 (s1.2.1 + 8)) + ((x0 : ByteArray).size : Int)), IntKind.wrap .i64 (s1.2.2 + 1)) h_3)
    else
      Q (.tuple #[.slice s1.1.a s1.1.l s1.1.c, .int .i64 s1.2.1]) h_0)) (⟨none, 0, 0⟩, 0, 0) h
theorem F25_eq : (fun (s0 : ByteArray) (h : Heap) (Q : Value → Heap → Prop) => fnPT Try.prog Try.f25 (fun i => bif Nat.beq i 0 then annCons 4 (codSl) (annCons 5 (codI .i64) (annOne 6 (codI .i64))) else annNil) (fun _ => []) (fun _ => none) [.string s0] h Q) = F25 := by kernel_rfl
theorem F25_ok {s0 : ByteArray} {h : Heap} {Q : Value → Heap → Prop} (H : F25 s0 h Q) : CallsH Try.prog 25 [.string s0] h Q :=
  callsH_of (ann := fun i => bif Nat.beq i 0 then annCons 4 (codSl) (annCons 5 (codI .i64) (annOne 6 (codI .i64))) else annNil) (tys := fun _ => []) (pl := fun _ => none) Try.func25 (by kernel_rfl) (by have e := F25_eq; exact (congrFun (congrFun (congrFun (e) s0) h) Q).symm ▸ H)

/-- headgate/headgatelaw05.same -/
def F26 (a0a : Option Addr) (a0l : Nat) (a0c : Nat) (b0a : Option Addr) (b0l : Nat) (b0c : Nat) (h : Heap) (Q : Value → Heap → Prop) : Prop :=
  (bif ((a0l : Int) : Int) != (b0l : Int) then
    Q (.bool false) h
  else
    LoopH (fun again0 (s0 : Int) h_0 =>
      (bif decide ((s0 : Int) < (b0l : Int)) then
        IdxA a0a a0l s0 1 fun a1 =>
        Ld h_0 a1 fun v0 => DSl v0 fun x0a x0l x0c =>
        ∃ bs0 : ByteArray, BytesIn h_0 x0a x0l bs0 ∧
        IdxA b0a b0l s0 1 fun a2 =>
        Ld h_0 a2 fun v1 => DS v1 fun x1 =>
        (bif !strEq bs0 x1 then
          Q (.bool false) h_0
        else
          again0 (IntKind.wrap .i64 (s0 + 1)) h_0)
      else
        Q (.bool true) h_0)) 0 h)
theorem F26_eq : (fun (a0a : Option Addr) (a0l : Nat) (a0c : Nat) (b0a : Option Addr) (b0l : Nat) (b0c : Nat) (h : Heap) (Q : Value → Heap → Prop) => fnPT Try.prog Try.f26 (fun i => bif Nat.beq i 0 then annOne 5 (codI .i64) else annNil) (fun _ => []) (fun _ => none) [.slice a0a a0l a0c, .slice b0a b0l b0c] h Q) = F26 := by kernel_rfl
theorem F26_ok {a0a : Option Addr} {a0l : Nat} {a0c : Nat} {b0a : Option Addr} {b0l : Nat} {b0c : Nat} {h : Heap} {Q : Value → Heap → Prop} (H : F26 a0a a0l a0c b0a b0l b0c h Q) : CallsH Try.prog 26 [.slice a0a a0l a0c, .slice b0a b0l b0c] h Q :=
  callsH_of (ann := fun i => bif Nat.beq i 0 then annOne 5 (codI .i64) else annNil) (tys := fun _ => []) (pl := fun _ => none) Try.func26 (by kernel_rfl) (by have e := F26_eq; exact (congrFun (congrFun (congrFun (congrFun (congrFun (congrFun (congrFun (congrFun (e) a0a) a0l) a0c) b0a) b0l) b0c) h) Q).symm ▸ H)

/-- headgate/frame.All -/
def F27 (b0a : Option Addr) (b0l : Nat) (b0c : Nat) (h : Heap) (Q : Value → Heap → Prop) : Prop :=
  RunH Try.prog (Builtin.append_ #[26, 26] 26 #[.slice none 0 0, .slice b0a b0l b0c]) h fun r0 h_0 =>
  DSl r0 fun x0a x0l x0c =>
  Al h_0 (.cells #[.slice none 0 0] 26) fun b1 h_1 =>
  StC h_1 ((Addr.mk b1 0 none).add 0) (.slice x0a x0l x0c) fun h_3 =>
  Q (.func (.func 31) #[] #[.pointer (some (Addr.mk b1 0 none))]) h_3
theorem F27_eq : (fun (b0a : Option Addr) (b0l : Nat) (b0c : Nat) (h : Heap) (Q : Value → Heap → Prop) => fnPT Try.prog Try.f27 (fun _ => annNil) (fun _ => []) (fun _ => none) [.slice b0a b0l b0c] h Q) = F27 := by kernel_rfl
theorem F27_ok {b0a : Option Addr} {b0l : Nat} {b0c : Nat} {h : Heap} {Q : Value → Heap → Prop} (H : F27 b0a b0l b0c h Q) : CallsH Try.prog 27 [.slice b0a b0l b0c] h Q :=
  callsH_of (ann := fun _ => annNil) (tys := fun _ => []) (pl := fun _ => none) Try.func27 (by kernel_rfl) (by have e := F27_eq; exact (congrFun (congrFun (congrFun (congrFun (congrFun (e) b0a) b0l) b0c) h) Q).symm ▸ H)

/-- headgate/frame.word -/
def F28 (n0 : Int) (h : Heap) (Q : Value → Heap → Prop) : Prop :=
  0 ≤ (24 : Int) ∧
  0 ≤ (16 : Int) ∧
  0 ≤ (8 : Int) ∧
  Al h (.cells #[.int .u8 (IntKind.wrap .u8 (shrI .u32 n0 24)), .int .u8 (IntKind.wrap .u8 (shrI .u32 n0 16)), .int .u8 (IntKind.wrap .u8 (shrI .u32 n0 8)), .int .u8 (IntKind.wrap .u8 n0)] 5) fun b0 h_0 =>
  Q (.slice (some (Addr.mk b0 0 none)) 4 4) h_0
theorem F28_eq : (fun (n0 : Int) (h : Heap) (Q : Value → Heap → Prop) => fnPT Try.prog Try.f28 (fun _ => annNil) (fun _ => []) (fun _ => none) [.int .u32 n0] h Q) = F28 := by kernel_rfl
theorem F28_ok {n0 : Int} {h : Heap} {Q : Value → Heap → Prop} (H : F28 n0 h Q) : CallsH Try.prog 28 [.int .u32 n0] h Q :=
  callsH_of (ann := fun _ => annNil) (tys := fun _ => []) (pl := fun _ => none) Try.func28 (by kernel_rfl) (by have e := F28_eq; exact (congrFun (congrFun (congrFun (e) n0) h) Q).symm ▸ H)

/-- headgate/headgateref05.four -/
def F29 (n0 : Int) (h : Heap) (Q : Value → Heap → Prop) : Prop :=
  (16777216 : Int) ≠ 0 ∧
  (65536 : Int) ≠ 0 ∧
  (256 : Int) ≠ 0 ∧
  (256 : Int) ≠ 0 ∧
  (256 : Int) ≠ 0 ∧
  (256 : Int) ≠ 0 ∧
  Al h (.cells #[.int .u8 (IntKind.wrap .u8 (IntKind.wrap .u32 (Int.tdiv n0 16777216))), .int .u8 (IntKind.wrap .u8 (Int.tmod (IntKind.wrap .u32 (Int.tdiv n0 65536)) 256)), .int .u8 (IntKind.wrap .u8 (Int.tmod (IntKind.wrap .u32 (Int.tdiv n0 256)) 256)), .int .u8 (IntKind.wrap .u8 (Int.tmod n0 256))] 5) fun b0 h_0 =>
  ∃ bs0 : ByteArray, BytesIn h_0 (some (Addr.mk b0 0 none)) 4 bs0 ∧
  Q (.string bs0) h_0
theorem F29_eq : (fun (n0 : Int) (h : Heap) (Q : Value → Heap → Prop) => fnPT Try.prog Try.f29 (fun _ => annNil) (fun _ => []) (fun _ => none) [.int .u32 n0] h Q) = F29 := by kernel_rfl
theorem F29_ok {n0 : Int} {h : Heap} {Q : Value → Heap → Prop} (H : F29 n0 h Q) : CallsH Try.prog 29 [.int .u32 n0] h Q :=
  callsH_of (ann := fun _ => annNil) (tys := fun _ => []) (pl := fun _ => none) Try.func29 (by kernel_rfl) (by have e := F29_eq; exact (congrFun (congrFun (congrFun (e) n0) h) Q).symm ▸ H)

/-- headgate/frame.first -/
def F30 (b0a : Option Addr) (b0l : Nat) (b0c : Nat) (h : Heap) (Q : Value → Heap → Prop) : Prop :=
  (bif decide (((b0l : Int) : Int) < 8) then
    Q (.tuple #[.slice none 0 0, .bool false]) h
  else
    CallsH Try.prog 32 [.slice b0a b0l b0c] h fun r0 h_0 =>
    DI .u32 r0 fun n0 =>
    (bif decide ((n0 : Int) > 16777208) then
      Q (.tuple #[.slice none 0 0, .bool false]) h_0
    else
      (bif decide (((IntKind.wrap .i64 n0) : Int) > (IntKind.wrap .i64 ((b0l : Int) - 8))) then
        Q (.tuple #[.slice none 0 0, .bool false]) h_0
      else
        SlV b0a b0c 1 8 (IntKind.wrap .i64 (8 + (IntKind.wrap .i64 n0))) (b0c : Int) fun s0a s0l s0c =>
        SlV b0a b0c 1 4 (b0l : Int) (b0c : Int) fun s1a s1l s1c =>
        ∃ r2, (CallsH Try.prog 32 [.slice s1a s1l s1c] h_0 fun r1 h_1 =>
        r1 = r2 ∧ h_1 = h_0) ∧
        DI .u32 r2 fun x0 =>
        SlV b0a b0c 1 0 4 (b0c : Int) fun s2a s2l s2c =>
        ∃ r4, (CallsH Try.prog 16 [.slice s2a s2l s2c] h_0 fun r3 h_2 =>
        r3 = r4 ∧ h_2 = h_0) ∧
        DI .u32 r4 fun x1 =>
        ∃ r6, (CallsH Try.prog 18 [.int .u32 x1, .slice s0a s0l s0c] h_0 fun r5 h_3 =>
        r5 = r6 ∧ h_3 = h_0) ∧
        DI .u32 r6 fun x2 =>
        Q (.tuple #[.slice s0a s0l s0c, .bool ((x0 : Int) == x2)]) h_0)))
theorem F30_eq : (fun (b0a : Option Addr) (b0l : Nat) (b0c : Nat) (h : Heap) (Q : Value → Heap → Prop) => fnPT Try.prog Try.f30 (fun _ => annNil) (fun _ => []) (fun _ => none) [.slice b0a b0l b0c] h Q) = F30 := by kernel_rfl
theorem F30_ok {b0a : Option Addr} {b0l : Nat} {b0c : Nat} {h : Heap} {Q : Value → Heap → Prop} (H : F30 b0a b0l b0c h Q) : CallsH Try.prog 30 [.slice b0a b0l b0c] h Q :=
  callsH_of (ann := fun _ => annNil) (tys := fun _ => []) (pl := fun _ => none) Try.func30 (by kernel_rfl) (by have e := F30_eq; exact (congrFun (congrFun (congrFun (congrFun (congrFun (e) b0a) b0l) b0c) h) Q).symm ▸ H)

/-- headgate/frame.All$1 -/
def F31 (yield0 : Value) (c0 : Addr) (h : Heap) (Q : Value → Heap → Prop) : Prop :=
  LoopH (fun again0 (s0 : Int) h_0 =>
    Ld h_0 c0 fun v0 => DSl v0 fun x0a x0l x0c =>
    SlV x0a x0c 1 s0 (x0l : Int) (x0c : Int) fun s1a s1l s1c =>
    CallsH Try.prog 30 [.slice s1a s1l s1c] h_0 fun r0 h_1 =>
    ∃ (x1a : Option Addr), ∃ (x1l : Nat), ∃ (x1c : Nat), ∃ (x2 : Bool), r0 = .tuple #[.slice x1a x1l x1c, .bool x2] ∧
    (bif !x2 then
      Q (.tuple #[]) h_1
    else
      RunH Try.prog (Builtin.append_ #[26, 26] 26 #[.slice none 0 0, .slice x1a x1l x1c]) h_1 fun r1 h_2 =>
      DSl r1 fun x3a x3l x3c =>
      CallV Try.prog yield0 [.int .i64 s0, .slice x3a x3l x3c] h_2 fun r2 h_3 =>
      DB r2 fun x4 =>
      (bif !x4 then
        Q (.tuple #[]) h_3
      else
        again0 (IntKind.wrap .i64 (s0 + (IntKind.wrap .i64 (8 + (x1l : Int))))) h_3))) 0 h
theorem F31_eq : (fun (yield0 : Value) (c0 : Addr) (h : Heap) (Q : Value → Heap → Prop) => fnPT Try.prog Try.f31 (fun i => bif Nat.beq i 0 then annOne 3 (codI .i64) else annNil) (fun _ => []) (fun _ => none) [yield0, .pointer (some c0)] h Q) = F31 := by kernel_rfl
theorem F31_ok {yield0 : Value} {c0 : Addr} {h : Heap} {Q : Value → Heap → Prop} (H : F31 yield0 c0 h Q) : CallsH Try.prog 31 [yield0, .pointer (some c0)] h Q :=
  callsH_of (ann := fun i => bif Nat.beq i 0 then annOne 3 (codI .i64) else annNil) (tys := fun _ => []) (pl := fun _ => none) Try.func31 (by kernel_rfl) (by have e := F31_eq; exact (congrFun (congrFun (congrFun (congrFun (e) yield0) c0) h) Q).symm ▸ H)

/-- headgate/frame.number -/
def F32 (b0a : Option Addr) (b0l : Nat) (b0c : Nat) (h : Heap) (Q : Value → Heap → Prop) : Prop :=
  IdxA b0a b0l 0 1 fun a0 =>
  Ld h a0 fun v0 => DI .u8 v0 fun x0 =>
  0 ≤ (24 : Int) ∧
  IdxA b0a b0l 1 1 fun a1 =>
  Ld h a1 fun v1 => DI .u8 v1 fun x1 =>
  0 ≤ (16 : Int) ∧
  IdxA b0a b0l 2 1 fun a2 =>
  Ld h a2 fun v2 => DI .u8 v2 fun x2 =>
  0 ≤ (8 : Int) ∧
  IdxA b0a b0l 3 1 fun a3 =>
  Ld h a3 fun v3 => DI .u8 v3 fun x3 =>
  Q (.int .u32 (bitsI .or .u32 (bitsI .or .u32 (bitsI .or .u32 (shlI .u32 (IntKind.wrap .u32 x0) 24) (shlI .u32 (IntKind.wrap .u32 x1) 16)) (shlI .u32 (IntKind.wrap .u32 x2) 8)) (IntKind.wrap .u32 x3))) h
theorem F32_eq : (fun (b0a : Option Addr) (b0l : Nat) (b0c : Nat) (h : Heap) (Q : Value → Heap → Prop) => fnPT Try.prog Try.f32 (fun _ => annNil) (fun _ => []) (fun _ => none) [.slice b0a b0l b0c] h Q) = F32 := by kernel_rfl
theorem F32_ok {b0a : Option Addr} {b0l : Nat} {b0c : Nat} {h : Heap} {Q : Value → Heap → Prop} (H : F32 b0a b0l b0c h Q) : CallsH Try.prog 32 [.slice b0a b0l b0c] h Q :=
  callsH_of (ann := fun _ => annNil) (tys := fun _ => []) (pl := fun _ => none) Try.func32 (by kernel_rfl) (by have e := F32_eq; exact (congrFun (congrFun (congrFun (congrFun (congrFun (e) b0a) b0l) b0c) h) Q).symm ▸ H)

end Go.Proofs.Ytpblcdgglbhdoaa
