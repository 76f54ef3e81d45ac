/- The texts over heaps of functions of the program: written by a program of this claim's writer (decomp.py); Lean checks each against the code. -/
import Derived.Test.YticjjdhaikbdaaaGreatDoorSnFwA
import Derived.Test.YticjjdhaikbdaaaGreatDoorProg
namespace Go.Proofs.YticjjdhaikbdaaaGreatDoor
open Go Go.RowKit
set_option linter.unusedVariables false
set_option maxRecDepth 100000

/-- headgate/segment.Open -/
def F35b (f0 : Option Addr) (dir0 : ByteArray) (size0 : Int) (h : Heap) (Q : Value → Heap → Prop) : Prop :=
  (bif decide ((size0 : Int) < 1) then
    Q (.tuple #[.pointer none, .int .i64 2]) h
  else
    (bif decide ((size0 : Int) > 16777216) then
      Q (.tuple #[.pointer none, .int .i64 2]) h
    else
      CallsH Tryz.prog 82 [.pointer f0, .string dir0] h fun r0 h_0 =>
      ∃ (x0a : Option Addr), ∃ (x0l : Nat), ∃ (x0c : Nat), ∃ (x1 : Int), r0 = .tuple #[.slice x0a x0l x0c, .int .i64 x1] ∧
      (bif (x1 : Int) != 0 then
        Q (.tuple #[.pointer none, .int .i64 x1]) h_0
      else
        Al h_0 (.cells #[.pointer f0, .string dir0, .int .i64 size0, .slice none 0 0, .int .i64 0, .int .i64 0] 152) fun b0 h_1 =>
        CallsH Tryz.prog 84 [.slice x0a x0l x0c] h_1 fun r2 h_2 =>
        DSl r2 fun x2a x2l x2c =>
        CallsH Tryz.prog 83 [.pointer (some (Addr.mk b0 0 none)), .slice x2a x2l x2c] h_2 fun r3 h_3 =>
        DI .i64 r3 fun e0 =>
        (bif (e0 : Int) != 0 then
          Q (.tuple #[.pointer none, .int .i64 e0]) h_3
        else
          CallsH Tryz.prog 39 [.pointer (some (Addr.mk b0 0 none))] h_3 fun r4 h_4 =>
          DI .i64 r4 fun e1 =>
          (bif (e1 : Int) != 0 then
            Q (.tuple #[.pointer none, .int .i64 e1]) h_4
          else
            Q (.tuple #[.pointer (some (Addr.mk b0 0 none)), .int .i64 0]) h_4)))))
theorem F35b_eq : (fun (f0 : Option Addr) (dir0 : ByteArray) (size0 : Int) (h : Heap) (Q : Value → Heap → Prop) => fnPT Tryz.prog Tryz.f35 (fun _ => annNil) (fun _ => []) (fun _ => none) [.pointer f0, .string dir0, .int .i64 size0] h Q) = F35b := by kernel_rfl
theorem F35b_ok {f0 : Option Addr} {dir0 : ByteArray} {size0 : Int} {h : Heap} {Q : Value → Heap → Prop} (H : F35b f0 dir0 size0 h Q) : CallsH Tryz.prog 35 [.pointer f0, .string dir0, .int .i64 size0] h Q :=
  callsH_of (ann := fun _ => annNil) (tys := fun _ => []) (pl := fun _ => none) Tryz.func35 (by kernel_rfl) (by have e := F35b_eq; exact (congrFun (congrFun (congrFun (congrFun (congrFun (e) f0) dir0) size0) h) Q).symm ▸ H)

/-- (*headgate/segment.Log).Append -/
def F38b (l_0 : Option Addr) (b0a : Option Addr) (b0l : Nat) (b0c : Nat) (h : Heap) (Q : Value → Heap → Prop) : Prop :=
  (bif (l_0).isNone then
    Q (.tuple #[.int .i64 0, .int .i64 1]) h
  else
    (bif decide (((b0l : Int) : Int) > 1024) then
      Q (.tuple #[.int .i64 0, .int .i64 100]) h
    else
      CallsH Tryz.prog 86 [.pointer l_0] h fun r0 h_0 =>
      DP r0 fun p0 =>
      (bif (p0).isNone then
        CallsH Tryz.prog 87 [.pointer l_0] h_0 fun r1 h_1 =>
        DI .i64 r1 fun e0 =>
        (bif (e0 : Int) != 0 then
          Q (.tuple #[.int .i64 0, .int .i64 e0]) h_1
        else
          CallsH Tryz.prog 88 [.slice b0a b0l b0c] h_1 fun r2 h_2 =>
          ∃ (x0a : Option Addr), ∃ (x0l : Nat), ∃ (x0c : Nat), ∃ (x1 : Int), r2 = .tuple #[.slice x0a x0l x0c, .int .i64 x1] ∧
          (bif (x1 : Int) != 0 then
            Q (.tuple #[.int .i64 0, .int .i64 x1]) h_2
          else
            CallsH Tryz.prog 86 [.pointer l_0] h_2 fun r3 h_3 =>
            DP r3 fun p1 =>
            NN' l_0 fun a0 =>
            Ld h_3 (a0.add 0) fun v0 => DP v0 fun x2 =>
            NN' l_0 fun a1 =>
            Ld h_3 (a1.add 1) fun v1 => DS v1 fun x3 =>
            NN' p1 fun a2 =>
            Ld h_3 (a2.add 0) fun v2 => DI .i64 v2 fun x4 =>
            CallsH Tryz.prog 89 [.int .i64 x4] h_3 fun r4 h_4 =>
            DS r4 fun x5 =>
            (SameV (some (.pointer l_0)) (.pointer l_0)) ∧
            (NN' l_0 fun a3 =>
            SameV (some (.pointer (some a0))) (.pointer (some a3))) ∧
            (SameV (some (.pointer (some (a0.add 0)))) (.pointer (some (a0.add 0)))) ∧
            (Ld h_4 (a0.add 0) fun v3 => DP v3 fun x6 =>
            SameV (some (.pointer x2)) (.pointer x6)) ∧
            (SameV (some (.pointer l_0)) (.pointer l_0)) ∧
            (NN' l_0 fun a4 =>
            SameV (some (.pointer (some a1))) (.pointer (some a4))) ∧
            (SameV (some (.pointer (some (a1.add 1)))) (.pointer (some (a1.add 1)))) ∧
            (Ld h_4 (a1.add 1) fun v4 => DS v4 fun x7 =>
            SameV (some (.string x3)) (.string x7)) ∧
            (SameV (some (.slice x0a x0l x0c)) (.slice x0a x0l x0c)) ∧
            CallsH Tryz.prog 51 [.pointer x2, .string x3, .string x5, .slice x0a x0l x0c] h_4 fun r5 h_5 =>
            DI .i64 r5 fun e1 =>
            (bif (e1 : Int) != 0 then
              Q (.tuple #[.int .i64 0, .int .i64 e1]) h_5
            else
              NN' p1 fun a5 =>
              Ld h_5 (a5.add 1) fun v5 => DI .i64 v5 fun x8 =>
              NN' p1 fun a6 =>
              StC h_5 ((a6.add 1).add 0) (.int .i64 (IntKind.wrap .i64 (x8 + 1))) fun h_7 =>
              NN' p1 fun a7 =>
              Ld h_7 (a7.add 2) fun v6 => DI .i64 v6 fun x9 =>
              NN' p1 fun a8 =>
              StC h_7 ((a8.add 2).add 0) (.int .i64 (IntKind.wrap .i64 (x9 + (x0l : Int)))) fun h_9 =>
              NN' l_0 fun a9 =>
              Ld h_9 (a9.add 4) fun v7 => DI .i64 v7 fun x10 =>
              NN' l_0 fun a10 =>
              StC h_9 ((a10.add 4).add 0) (.int .i64 (IntKind.wrap .i64 (x10 + 1))) fun h_11 =>
              NN' l_0 fun a11 =>
              Ld h_11 (a11.add 4) fun v8 => DI .i64 v8 fun x11 =>
              Q (.tuple #[.int .i64 (IntKind.wrap .i64 (x11 - 1)), .int .i64 0]) h_11)))
      else
        NN' p0 fun a12 =>
        Ld h_0 (a12.add 2) fun v9 => DI .i64 v9 fun x12 =>
        NN' l_0 fun a13 =>
        Ld h_0 (a13.add 2) fun v10 => DI .i64 v10 fun x13 =>
        (bif decide ((x12 : Int) ≥ x13) then
          CallsH Tryz.prog 87 [.pointer l_0] h_0 fun r9 h_12 =>
          DI .i64 r9 fun e2 =>
          (bif (e2 : Int) != 0 then
            Q (.tuple #[.int .i64 0, .int .i64 e2]) h_12
          else
            CallsH Tryz.prog 88 [.slice b0a b0l b0c] h_12 fun r10 h_13 =>
            ∃ (x14a : Option Addr), ∃ (x14l : Nat), ∃ (x14c : Nat), ∃ (x15 : Int), r10 = .tuple #[.slice x14a x14l x14c, .int .i64 x15] ∧
            (bif (x15 : Int) != 0 then
              Q (.tuple #[.int .i64 0, .int .i64 x15]) h_13
            else
              CallsH Tryz.prog 86 [.pointer l_0] h_13 fun r11 h_14 =>
              DP r11 fun p2 =>
              NN' l_0 fun a14 =>
              Ld h_14 (a14.add 0) fun v11 => DP v11 fun x16 =>
              NN' l_0 fun a15 =>
              Ld h_14 (a15.add 1) fun v12 => DS v12 fun x17 =>
              NN' p2 fun a16 =>
              Ld h_14 (a16.add 0) fun v13 => DI .i64 v13 fun x18 =>
              CallsH Tryz.prog 89 [.int .i64 x18] h_14 fun r12 h_15 =>
              DS r12 fun x19 =>
              (SameV (some (.pointer l_0)) (.pointer l_0)) ∧
              (NN' l_0 fun a17 =>
              SameV (some (.pointer (some a14))) (.pointer (some a17))) ∧
              (SameV (some (.pointer (some (a14.add 0)))) (.pointer (some (a14.add 0)))) ∧
              (Ld h_15 (a14.add 0) fun v14 => DP v14 fun x20 =>
              SameV (some (.pointer x16)) (.pointer x20)) ∧
              (SameV (some (.pointer l_0)) (.pointer l_0)) ∧
              (NN' l_0 fun a18 =>
              SameV (some (.pointer (some a15))) (.pointer (some a18))) ∧
              (SameV (some (.pointer (some (a15.add 1)))) (.pointer (some (a15.add 1)))) ∧
              (Ld h_15 (a15.add 1) fun v15 => DS v15 fun x21 =>
              SameV (some (.string x17)) (.string x21)) ∧
              (SameV (some (.slice x14a x14l x14c)) (.slice x14a x14l x14c)) ∧
              CallsH Tryz.prog 51 [.pointer x16, .string x17, .string x19, .slice x14a x14l x14c] h_15 fun r13 h_16 =>
              DI .i64 r13 fun e3 =>
              (bif (e3 : Int) != 0 then
                Q (.tuple #[.int .i64 0, .int .i64 e3]) h_16
              else
                NN' p2 fun a19 =>
                Ld h_16 (a19.add 1) fun v16 => DI .i64 v16 fun x22 =>
                NN' p2 fun a20 =>
                StC h_16 ((a20.add 1).add 0) (.int .i64 (IntKind.wrap .i64 (x22 + 1))) fun h_18 =>
                NN' p2 fun a21 =>
                Ld h_18 (a21.add 2) fun v17 => DI .i64 v17 fun x23 =>
                NN' p2 fun a22 =>
                StC h_18 ((a22.add 2).add 0) (.int .i64 (IntKind.wrap .i64 (x23 + (x14l : Int)))) fun h_20 =>
                NN' l_0 fun a23 =>
                Ld h_20 (a23.add 4) fun v18 => DI .i64 v18 fun x24 =>
                NN' l_0 fun a24 =>
                StC h_20 ((a24.add 4).add 0) (.int .i64 (IntKind.wrap .i64 (x24 + 1))) fun h_22 =>
                NN' l_0 fun a25 =>
                Ld h_22 (a25.add 4) fun v19 => DI .i64 v19 fun x25 =>
                Q (.tuple #[.int .i64 (IntKind.wrap .i64 (x25 - 1)), .int .i64 0]) h_22)))
        else
          CallsH Tryz.prog 88 [.slice b0a b0l b0c] h_0 fun r17 h_23 =>
          ∃ (x26a : Option Addr), ∃ (x26l : Nat), ∃ (x26c : Nat), ∃ (x27 : Int), r17 = .tuple #[.slice x26a x26l x26c, .int .i64 x27] ∧
          (bif (x27 : Int) != 0 then
            Q (.tuple #[.int .i64 0, .int .i64 x27]) h_23
          else
            CallsH Tryz.prog 86 [.pointer l_0] h_23 fun r18 h_24 =>
            DP r18 fun p3 =>
            NN' l_0 fun a26 =>
            Ld h_24 (a26.add 0) fun v20 => DP v20 fun x28 =>
            NN' l_0 fun a27 =>
            Ld h_24 (a27.add 1) fun v21 => DS v21 fun x29 =>
            NN' p3 fun a28 =>
            Ld h_24 (a28.add 0) fun v22 => DI .i64 v22 fun x30 =>
            CallsH Tryz.prog 89 [.int .i64 x30] h_24 fun r19 h_25 =>
            DS r19 fun x31 =>
            (SameV (some (.pointer l_0)) (.pointer l_0)) ∧
            (NN' l_0 fun a29 =>
            SameV (some (.pointer (some a26))) (.pointer (some a29))) ∧
            (SameV (some (.pointer (some (a26.add 0)))) (.pointer (some (a26.add 0)))) ∧
            (Ld h_25 (a26.add 0) fun v23 => DP v23 fun x32 =>
            SameV (some (.pointer x28)) (.pointer x32)) ∧
            (SameV (some (.pointer l_0)) (.pointer l_0)) ∧
            (NN' l_0 fun a30 =>
            SameV (some (.pointer (some a27))) (.pointer (some a30))) ∧
            (SameV (some (.pointer (some (a27.add 1)))) (.pointer (some (a27.add 1)))) ∧
            (Ld h_25 (a27.add 1) fun v24 => DS v24 fun x33 =>
            SameV (some (.string x29)) (.string x33)) ∧
            (SameV (some (.slice x26a x26l x26c)) (.slice x26a x26l x26c)) ∧
            CallsH Tryz.prog 51 [.pointer x28, .string x29, .string x31, .slice x26a x26l x26c] h_25 fun r20 h_26 =>
            DI .i64 r20 fun e4 =>
            (bif (e4 : Int) != 0 then
              Q (.tuple #[.int .i64 0, .int .i64 e4]) h_26
            else
              NN' p3 fun a31 =>
              Ld h_26 (a31.add 1) fun v25 => DI .i64 v25 fun x34 =>
              NN' p3 fun a32 =>
              StC h_26 ((a32.add 1).add 0) (.int .i64 (IntKind.wrap .i64 (x34 + 1))) fun h_28 =>
              NN' p3 fun a33 =>
              Ld h_28 (a33.add 2) fun v26 => DI .i64 v26 fun x35 =>
              NN' p3 fun a34 =>
              StC h_28 ((a34.add 2).add 0) (.int .i64 (IntKind.wrap .i64 (x35 + (x26l : Int)))) fun h_30 =>
              NN' l_0 fun a35 =>
              Ld h_30 (a35.add 4) fun v27 => DI .i64 v27 fun x36 =>
              NN' l_0 fun a36 =>
              StC h_30 ((a36.add 4).add 0) (.int .i64 (IntKind.wrap .i64 (x36 + 1))) fun h_32 =>
              NN' l_0 fun a37 =>
              Ld h_32 (a37.add 4) fun v28 => DI .i64 v28 fun x37 =>
              Q (.tuple #[.int .i64 (IntKind.wrap .i64 (x37 - 1)), .int .i64 0]) h_32))))))
theorem F38b_eq : (fun (l_0 : Option Addr) (b0a : Option Addr) (b0l : Nat) (b0c : Nat) (h : Heap) (Q : Value → Heap → Prop) => fnPT Tryz.prog Tryz.f38 (fun _ => annNil) (fun _ => []) (fun i => bif Nat.beq i 14 then some ⟨[0, 1, 3, 7, 0, 16, 48, 112, 0, 256, 768, 1792, 3840, 0, 16383, 32767], 20480⟩ else none) [.pointer l_0, .slice b0a b0l b0c] h Q) = F38b := by kernel_rfl
theorem F38b_ok {l_0 : Option Addr} {b0a : Option Addr} {b0l : Nat} {b0c : Nat} {h : Heap} {Q : Value → Heap → Prop} (H : F38b l_0 b0a b0l b0c h Q) : CallsH Tryz.prog 38 [.pointer l_0, .slice b0a b0l b0c] h Q :=
  callsH_of (ann := fun _ => annNil) (tys := fun _ => []) (pl := fun i => bif Nat.beq i 14 then some ⟨[0, 1, 3, 7, 0, 16, 48, 112, 0, 256, 768, 1792, 3840, 0, 16383, 32767], 20480⟩ else none) Tryz.func38 (by kernel_rfl) (by have e := F38b_eq; exact (congrFun (congrFun (congrFun (congrFun (congrFun (congrFun (e) l_0) b0a) b0l) b0c) h) Q).symm ▸ H)

/-- (*headgate/segment.Log).Sync -/
def F39b (l_0 : Option Addr) (h : Heap) (Q : Value → Heap → Prop) : Prop :=
  (bif (l_0).isNone then
    Q (.int .i64 1) h
  else
    CallsH Tryz.prog 86 [.pointer l_0] h fun r0 h_0 =>
    DP r0 fun p0 =>
    (bif !((p0).isNone) then
      NN' l_0 fun a0 =>
      Ld h_0 (a0.add 0) fun v0 => DP v0 fun x0 =>
      NN' l_0 fun a1 =>
      Ld h_0 (a1.add 1) fun v1 => DS v1 fun x1 =>
      NN' p0 fun a2 =>
      Ld h_0 (a2.add 0) fun v2 => DI .i64 v2 fun x2 =>
      CallsH Tryz.prog 89 [.int .i64 x2] h_0 fun r1 h_1 =>
      DS r1 fun x3 =>
      (SameV (some (.pointer l_0)) (.pointer l_0)) ∧
      (NN' l_0 fun a3 =>
      SameV (some (.pointer (some a0))) (.pointer (some a3))) ∧
      (SameV (some (.pointer (some (a0.add 0)))) (.pointer (some (a0.add 0)))) ∧
      (Ld h_1 (a0.add 0) fun v3 => DP v3 fun x4 =>
      SameV (some (.pointer x0)) (.pointer x4)) ∧
      (SameV (some (.pointer l_0)) (.pointer l_0)) ∧
      (NN' l_0 fun a4 =>
      SameV (some (.pointer (some a1))) (.pointer (some a4))) ∧
      (SameV (some (.pointer (some (a1.add 1)))) (.pointer (some (a1.add 1)))) ∧
      (Ld h_1 (a1.add 1) fun v4 => DS v4 fun x5 =>
      SameV (some (.string x1)) (.string x5)) ∧
      CallsH Tryz.prog 52 [.pointer x0, .string x1, .string x3] h_1 fun r2 h_2 =>
      DI .i64 r2 fun e0 =>
      (bif (e0 : Int) != 0 then
        Q (.int .i64 e0) h_2
      else
        NN' l_0 fun a5 =>
        Ld h_2 (a5.add 4) fun v5 => DI .i64 v5 fun x6 =>
        NN' l_0 fun a6 =>
        StC h_2 ((a6.add 5).add 0) (.int .i64 x6) fun h_4 =>
        Q (.int .i64 0) h_4)
    else
      NN' l_0 fun a7 =>
      Ld h_0 (a7.add 4) fun v6 => DI .i64 v6 fun x7 =>
      NN' l_0 fun a8 =>
      StC h_0 ((a8.add 5).add 0) (.int .i64 x7) fun h_6 =>
      Q (.int .i64 0) h_6))
theorem F39b_eq : (fun (l_0 : Option Addr) (h : Heap) (Q : Value → Heap → Prop) => fnPT Tryz.prog Tryz.f39 (fun _ => annNil) (fun _ => []) (fun i => bif Nat.beq i 5 then some ⟨[0, 1, 3, 7, 0, 16, 48, 112, 0, 256, 768, 1792, 3840, 8191, 16383], 12288⟩ else none) [.pointer l_0] h Q) = F39b := by kernel_rfl
theorem F39b_ok {l_0 : Option Addr} {h : Heap} {Q : Value → Heap → Prop} (H : F39b l_0 h Q) : CallsH Tryz.prog 39 [.pointer l_0] h Q :=
  callsH_of (ann := fun _ => annNil) (tys := fun _ => []) (pl := fun i => bif Nat.beq i 5 then some ⟨[0, 1, 3, 7, 0, 16, 48, 112, 0, 256, 768, 1792, 3840, 8191, 16383], 12288⟩ else none) Tryz.func39 (by kernel_rfl) (by have e := F39b_eq; exact (congrFun (congrFun (congrFun (e) l_0) h) Q).symm ▸ H)

/-- (*headgate/segment.Log).Durable -/
def F43b (l_0 : Option Addr) (h : Heap) (Q : Value → Heap → Prop) : Prop :=
  (bif (l_0).isNone then
    Q (.int .i64 0) h
  else
    NN' l_0 fun a0 =>
    Ld h (a0.add 5) fun v0 => DI .i64 v0 fun x0 =>
    Q (.int .i64 x0) h)
theorem F43b_eq : (fun (l_0 : Option Addr) (h : Heap) (Q : Value → Heap → Prop) => fnPT Tryz.prog Tryz.f43 (fun _ => annNil) (fun _ => []) (fun _ => none) [.pointer l_0] h Q) = F43b := by kernel_rfl
theorem F43b_ok {l_0 : Option Addr} {h : Heap} {Q : Value → Heap → Prop} (H : F43b l_0 h Q) : CallsH Tryz.prog 43 [.pointer l_0] h Q :=
  callsH_of (ann := fun _ => annNil) (tys := fun _ => []) (pl := fun _ => none) Tryz.func43 (by kernel_rfl) (by have e := F43b_eq; exact (congrFun (congrFun (congrFun (e) l_0) h) Q).symm ▸ H)

/-- (*headgate/segment.Log).load -/
def F83b (l_0 : Option Addr) (all0a : Option Addr) (all0l : Nat) (all0c : Nat) (h : Heap) (Q : Value → Heap → Prop) : Prop :=
  LoopH (fun again0 (s0 : Int) h_0 =>
    (bif decide ((s0 : Int) < (all0l : Int)) then
      IdxA all0a all0l s0 1 fun a0 =>
      Ld h_0 a0 fun v0 => DI .i64 v0 fun n0 =>
      NN' l_0 fun a1 =>
      Ld h_0 (a1.add 4) fun v1 => DI .i64 v1 fun x0 =>
      (bif (n0 : Int) != x0 then
        SlV all0a all0c 1 s0 (all0l : Int) (all0c : Int) fun s1a s1l s1c =>
        CallsH Tryz.prog 124 [.pointer l_0, .slice s1a s1l s1c] h_0 fun r0 h_1 =>
        DI .i64 r0 fun x1 =>
        Q (.int .i64 x1) h_1
      else
        NN' l_0 fun a2 =>
        Ld h_0 (a2.add 0) fun v2 => DP v2 fun x2 =>
        NN' l_0 fun a3 =>
        Ld h_0 (a3.add 1) fun v3 => DS v3 fun x3 =>
        CallsH Tryz.prog 89 [.int .i64 n0] h_0 fun r1 h_2 =>
        DS r1 fun x4 =>
        (SameV (some (.pointer l_0)) (.pointer l_0)) ∧
        (NN' l_0 fun a4 =>
        SameV (some (.pointer (some a2))) (.pointer (some a4))) ∧
        (SameV (some (.pointer (some (a2.add 0)))) (.pointer (some (a2.add 0)))) ∧
        (Ld h_2 (a2.add 0) fun v4 => DP v4 fun x5 =>
        SameV (some (.pointer x2)) (.pointer x5)) ∧
        (SameV (some (.pointer l_0)) (.pointer l_0)) ∧
        (NN' l_0 fun a5 =>
        SameV (some (.pointer (some a3))) (.pointer (some a5))) ∧
        (SameV (some (.pointer (some (a3.add 1)))) (.pointer (some (a3.add 1)))) ∧
        (Ld h_2 (a3.add 1) fun v5 => DS v5 fun x6 =>
        SameV (some (.string x3)) (.string x6)) ∧
        CallsH Tryz.prog 80 [.pointer x2, .string x3, .string x4] h_2 fun r2 h_3 =>
        ∃ (x7a : Option Addr), ∃ (x7l : Nat), ∃ (x7c : Nat), ∃ (x8 : Int), r2 = .tuple #[.slice x7a x7l x7c, .int .i64 x8] ∧
        (bif (x8 : Int) != 0 then
          Q (.int .i64 x8) h_3
        else
          CallsH Tryz.prog 93 [.slice x7a x7l x7c] h_3 fun r3 h_4 =>
          ∃ (x9a : Option Addr), ∃ (x9l : Nat), ∃ (x9c : Nat), ∃ (x10 : Int), r3 = .tuple #[.slice x9a x9l x9c, .int .i64 x10] ∧
          NN' l_0 fun a6 =>
          Ld h_4 (a6.add 3) fun v6 => DSl v6 fun x11a x11l x11c =>
          Al h_4 (.cells #[.int .i64 n0, .int .i64 (x9l : Int), .int .i64 x10] 158) fun b0 h_5 =>
          RunH Tryz.prog (Builtin.append_ #[150, 150] 150 #[.slice x11a x11l x11c, .slice (some (Addr.mk b0 0 none)) 1 1]) h_5 fun r5 h_6 =>
          DSl r5 fun x12a x12l x12c =>
          NN' l_0 fun a7 =>
          StC h_6 ((a7.add 3).add 0) (.slice x12a x12l x12c) fun h_8 =>
          NN' l_0 fun a8 =>
          Ld h_8 (a8.add 4) fun v7 => DI .i64 v7 fun x13 =>
          NN' l_0 fun a9 =>
          StC h_8 ((a9.add 4).add 0) (.int .i64 (IntKind.wrap .i64 (x13 + (x9l : Int)))) fun h_10 =>
          (bif decide ((x10 : Int) < (x7l : Int)) then
            NN' l_0 fun a10 =>
            Ld h_10 (a10.add 0) fun v8 => DP v8 fun x14 =>
            NN' l_0 fun a11 =>
            Ld h_10 (a11.add 1) fun v9 => DS v9 fun x15 =>
            SlV x7a x7c 1 0 x10 (x7c : Int) fun s2a s2l s2c =>
            CallsH Tryz.prog 89 [.int .i64 n0] h_10 fun r8 h_11 =>
            DS r8 fun x16 =>
            (SameV (some (.pointer l_0)) (.pointer l_0)) ∧
            (NN' l_0 fun a12 =>
            SameV (some (.pointer (some a10))) (.pointer (some a12))) ∧
            (SameV (some (.pointer (some (a10.add 0)))) (.pointer (some (a10.add 0)))) ∧
            (Ld h_11 (a10.add 0) fun v10 => DP v10 fun x17 =>
            SameV (some (.pointer x14)) (.pointer x17)) ∧
            (SameV (some (.pointer l_0)) (.pointer l_0)) ∧
            (NN' l_0 fun a13 =>
            SameV (some (.pointer (some a11))) (.pointer (some a13))) ∧
            (SameV (some (.pointer (some (a11.add 1)))) (.pointer (some (a11.add 1)))) ∧
            (Ld h_11 (a11.add 1) fun v11 => DS v11 fun x18 =>
            SameV (some (.string x15)) (.string x18)) ∧
            (SameV (some (.slice x7a x7l x7c)) (.slice x7a x7l x7c)) ∧
            (SameV (some (.int .i64 x10)) (.int .i64 x10)) ∧
            (SlV x7a x7c 1 0 x10 (x7c : Int) fun s3a s3l s3c =>
            SameV (some (.slice s2a s2l s2c)) (.slice s3a s3l s3c)) ∧
            CallsH Tryz.prog 125 [.pointer x14, .string x15, .string x16, .slice s2a s2l s2c] h_11 fun r9 h_12 =>
            DI .i64 r9 fun e0 =>
            (bif (e0 : Int) != 0 then
              Q (.int .i64 e0) h_12
            else
              SlV all0a all0c 1 (IntKind.wrap .i64 (s0 + 1)) (all0l : Int) (all0c : Int) fun s4a s4l s4c =>
              CallsH Tryz.prog 124 [.pointer l_0, .slice s4a s4l s4c] h_12 fun r10 h_13 =>
              DI .i64 r10 fun x19 =>
              Q (.int .i64 x19) h_13)
          else
            again0 (IntKind.wrap .i64 (s0 + 1)) h_10)))
    else
      Q (.int .i64 0) h_0)) 0 h
theorem F83b_eq : (fun (l_0 : Option Addr) (all0a : Option Addr) (all0l : Nat) (all0c : Nat) (h : Heap) (Q : Value → Heap → Prop) => fnPT Tryz.prog Tryz.f83 (fun i => bif Nat.beq i 0 then annOne 14 (codI .i64) else annNil) (fun _ => []) (fun i => bif Nat.beq i 6 then some ⟨[0, 1, 3, 7, 0, 16, 48, 112, 0, 256, 1023, 2047, 4095, 4095, 8191, 32767], 1536⟩ else bif Nat.beq i 13 then some ⟨[0, 1, 3, 7, 0, 16, 48, 112, 0, 256, 0, 0, 3072, 8191, 16383], 8704⟩ else none) [.pointer l_0, .slice all0a all0l all0c] h Q) = F83b := by kernel_rfl
theorem F83b_ok {l_0 : Option Addr} {all0a : Option Addr} {all0l : Nat} {all0c : Nat} {h : Heap} {Q : Value → Heap → Prop} (H : F83b l_0 all0a all0l all0c h Q) : CallsH Tryz.prog 83 [.pointer l_0, .slice all0a all0l all0c] h Q :=
  callsH_of (ann := fun i => bif Nat.beq i 0 then annOne 14 (codI .i64) else annNil) (tys := fun _ => []) (pl := fun i => bif Nat.beq i 6 then some ⟨[0, 1, 3, 7, 0, 16, 48, 112, 0, 256, 1023, 2047, 4095, 4095, 8191, 32767], 1536⟩ else bif Nat.beq i 13 then some ⟨[0, 1, 3, 7, 0, 16, 48, 112, 0, 256, 0, 0, 3072, 8191, 16383], 8704⟩ else none) Tryz.func83 (by kernel_rfl) (by have e := F83b_eq; exact (congrFun (congrFun (congrFun (congrFun (congrFun (congrFun (e) l_0) all0a) all0l) all0c) h) Q).symm ▸ H)

/-- headgate/segment.bases -/
def F84b (names0a : Option Addr) (names0l : Nat) (names0c : Nat) (h : Heap) (Q : Value → Heap → Prop) : Prop :=
  LoopH (fun again0 (s0 : Sl × Int) h_0 =>
    (bif decide ((s0.2 : Int) < (names0l : Int)) then
      IdxA names0a names0l s0.2 1 fun a0 =>
      Ld h_0 a0 fun v0 => DS v0 fun s1 =>
      CallsH Tryz.prog 126 [.string s1, .string ⟨#[115, 46]⟩] h_0 fun r0 h_1 =>
      ∃ (x0 : ByteArray), ∃ (x1 : Bool), r0 = .tuple #[.string x0, .bool x1] ∧
      (bif x1 then
        CallsH Tryz.prog 127 [.string x0] h_1 fun r1 h_2 =>
        ∃ (x2 : Int), ∃ (x3 : Bool), r1 = .tuple #[.int .i64 x2, .bool x3] ∧
        (bif x3 then
          Al h_2 (.cells #[.int .i64 x2] 2) fun b0 h_3 =>
          RunH Tryz.prog (Builtin.append_ #[22, 22] 22 #[.slice s0.1.a s0.1.l s0.1.c, .slice (some (Addr.mk b0 0 none)) 1 1]) h_3 fun r3 h_4 =>
          DSl r3 fun l_0a l_0l l_0c =>
          again0 (⟨l_0a, l_0l, l_0c⟩, IntKind.wrap .i64 (s0.2 + 1)) h_4
        else
          again0 (⟨s0.1.a, s0.1.l, s0.1.c⟩, IntKind.wrap .i64 (s0.2 + 1)) h_2)
      else
        again0 (⟨s0.1.a, s0.1.l, s0.1.c⟩, IntKind.wrap .i64 (s0.2 + 1)) h_1)
    else
      Q (.slice s0.1.a s0.1.l s0.1.c) h_0)) (⟨none, 0, 0⟩, 0) h
theorem F84b_eq : (fun (names0a : Option Addr) (names0l : Nat) (names0c : Nat) (h : Heap) (Q : Value → Heap → Prop) => fnPT Tryz.prog Tryz.f84 (fun i => bif Nat.beq i 0 then annCons 3 (codSl) (annOne 12 (codI .i64)) else annNil) (fun _ => []) (fun _ => none) [.slice names0a names0l names0c] h Q) = F84b := by kernel_rfl
theorem F84b_ok {names0a : Option Addr} {names0l : Nat} {names0c : Nat} {h : Heap} {Q : Value → Heap → Prop} (H : F84b names0a names0l names0c h Q) : CallsH Tryz.prog 84 [.slice names0a names0l names0c] h Q :=
  callsH_of (ann := fun i => bif Nat.beq i 0 then annCons 3 (codSl) (annOne 12 (codI .i64)) else annNil) (tys := fun _ => []) (pl := fun _ => none) Tryz.func84 (by kernel_rfl) (by have e := F84b_eq; exact (congrFun (congrFun (congrFun (congrFun (congrFun (e) names0a) names0l) names0c) h) Q).symm ▸ H)

/-- (*headgate/segment.Log).last -/
def F86b (l_0 : Option Addr) (h : Heap) (Q : Value → Heap → Prop) : Prop :=
  NN' l_0 fun a0 =>
  Ld h (a0.add 3) fun v0 => DSl v0 fun x0a x0l x0c =>
  (bif ((x0l : Int) : Int) == 0 then
    Q (.pointer none) h
  else
    NN' l_0 fun a1 =>
    Ld h (a1.add 3) fun v1 => DSl v1 fun x1a x1l x1c =>
    NN' l_0 fun a2 =>
    Ld h (a2.add 3) fun v2 => DSl v2 fun x2a x2l x2c =>
    IdxA x1a x1l (IntKind.wrap .i64 ((x2l : Int) - 1)) 3 fun a3 =>
    Q (.pointer (some a3)) h)
theorem F86b_eq : (fun (l_0 : Option Addr) (h : Heap) (Q : Value → Heap → Prop) => fnPT Tryz.prog Tryz.f86 (fun _ => annNil) (fun _ => []) (fun _ => none) [.pointer l_0] h Q) = F86b := by kernel_rfl
theorem F86b_ok {l_0 : Option Addr} {h : Heap} {Q : Value → Heap → Prop} (H : F86b l_0 h Q) : CallsH Tryz.prog 86 [.pointer l_0] h Q :=
  callsH_of (ann := fun _ => annNil) (tys := fun _ => []) (pl := fun _ => none) Tryz.func86 (by kernel_rfl) (by have e := F86b_eq; exact (congrFun (congrFun (congrFun (e) l_0) h) Q).symm ▸ H)

/-- (*headgate/segment.Log).roll -/
def F87b (l_0 : Option Addr) (h : Heap) (Q : Value → Heap → Prop) : Prop :=
  CallsH Tryz.prog 39 [.pointer l_0] h fun r0 h_0 =>
  DI .i64 r0 fun e0 =>
  (bif (e0 : Int) != 0 then
    Q (.int .i64 e0) h_0
  else
    NN' l_0 fun a0 =>
    Ld h_0 (a0.add 0) fun v0 => DP v0 fun x0 =>
    NN' l_0 fun a1 =>
    Ld h_0 (a1.add 1) fun v1 => DS v1 fun x1 =>
    NN' l_0 fun a2 =>
    Ld h_0 (a2.add 4) fun v2 => DI .i64 v2 fun x2 =>
    CallsH Tryz.prog 89 [.int .i64 x2] h_0 fun r1 h_1 =>
    DS r1 fun x3 =>
    (SameV (some (.pointer l_0)) (.pointer l_0)) ∧
    (NN' l_0 fun a3 =>
    SameV (some (.pointer (some a0))) (.pointer (some a3))) ∧
    (SameV (some (.pointer (some (a0.add 0)))) (.pointer (some (a0.add 0)))) ∧
    (Ld h_1 (a0.add 0) fun v3 => DP v3 fun x4 =>
    SameV (some (.pointer x0)) (.pointer x4)) ∧
    (SameV (some (.pointer l_0)) (.pointer l_0)) ∧
    (NN' l_0 fun a4 =>
    SameV (some (.pointer (some a1))) (.pointer (some a4))) ∧
    (SameV (some (.pointer (some (a1.add 1)))) (.pointer (some (a1.add 1)))) ∧
    (Ld h_1 (a1.add 1) fun v4 => DS v4 fun x5 =>
    SameV (some (.string x1)) (.string x5)) ∧
    CallsH Tryz.prog 50 [.pointer x0, .string x1, .string x3] h_1 fun r2 h_2 =>
    DI .i64 r2 fun e1 =>
    (bif (e1 : Int) != 0 then
      Q (.int .i64 e1) h_2
    else
      NN' l_0 fun a5 =>
      Ld h_2 (a5.add 0) fun v5 => DP v5 fun x6 =>
      NN' l_0 fun a6 =>
      Ld h_2 (a6.add 1) fun v6 => DS v6 fun x7 =>
      CallsH Tryz.prog 53 [.pointer x6, .string x7] h_2 fun r3 h_3 =>
      DI .i64 r3 fun e2 =>
      (bif (e2 : Int) != 0 then
        Q (.int .i64 e2) h_3
      else
        NN' l_0 fun a7 =>
        Ld h_3 (a7.add 3) fun v7 => DSl v7 fun x8a x8l x8c =>
        NN' l_0 fun a8 =>
        Ld h_3 (a8.add 4) fun v8 => DI .i64 v8 fun x9 =>
        Al h_3 (.cells #[.int .i64 x9, .int .i64 0, .int .i64 0] 158) fun b0 h_4 =>
        (SameV (some (.pointer l_0)) (.pointer l_0)) ∧
        (SameV (some (.pointer l_0)) (.pointer l_0)) ∧
        (NN' l_0 fun a9 =>
        SameV (some (.pointer (some a7))) (.pointer (some a9))) ∧
        (SameV (some (.pointer (some (a7.add 3)))) (.pointer (some (a7.add 3)))) ∧
        (Ld h_4 (a7.add 3) fun v9 => DSl v9 fun x10a x10l x10c =>
        SameV (some (.slice x8a x8l x8c)) (.slice x10a x10l x10c)) ∧
        RunH Tryz.prog (Builtin.append_ #[150, 150] 150 #[.slice x8a x8l x8c, .slice (some (Addr.mk b0 0 none)) 1 1]) h_4 fun r5 h_5 =>
        DSl r5 fun x11a x11l x11c =>
        (SameV (some (.pointer l_0)) (.pointer l_0)) ∧
        NN' l_0 fun a10 =>
        StC h_5 ((a10.add 3).add 0) (.slice x11a x11l x11c) fun h_7 =>
        Q (.int .i64 0) h_7)))
theorem F87b_eq : (fun (l_0 : Option Addr) (h : Heap) (Q : Value → Heap → Prop) => fnPT Tryz.prog Tryz.f87 (fun _ => annNil) (fun _ => []) (fun i => bif Nat.beq i 4 then some ⟨[0, 1, 3, 7, 0, 16, 48, 112, 0, 256, 768, 1792, 3840, 8191, 16383], 12288⟩ else bif Nat.beq i 7 then some ⟨[0, 1, 3, 7, 0, 16, 48, 112, 255, 511], 256⟩ else bif Nat.beq i 10 then some ⟨[0, 0, 2, 6, 14, 0, 32, 96, 224, 480, 992, 2046, 4095, 8191, 16383], 19456⟩ else none) [.pointer l_0] h Q) = F87b := by kernel_rfl
theorem F87b_ok {l_0 : Option Addr} {h : Heap} {Q : Value → Heap → Prop} (H : F87b l_0 h Q) : CallsH Tryz.prog 87 [.pointer l_0] h Q :=
  callsH_of (ann := fun _ => annNil) (tys := fun _ => []) (pl := fun i => bif Nat.beq i 4 then some ⟨[0, 1, 3, 7, 0, 16, 48, 112, 0, 256, 768, 1792, 3840, 8191, 16383], 12288⟩ else bif Nat.beq i 7 then some ⟨[0, 1, 3, 7, 0, 16, 48, 112, 255, 511], 256⟩ else bif Nat.beq i 10 then some ⟨[0, 0, 2, 6, 14, 0, 32, 96, 224, 480, 992, 2046, 4095, 8191, 16383], 19456⟩ else none) Tryz.func87 (by kernel_rfl) (by have e := F87b_eq; exact (congrFun (congrFun (congrFun (e) l_0) h) Q).symm ▸ H)

/-- headgate/segment.name -/
def F89b (base0 : Int) (h : Heap) (Q : Value → Heap → Prop) : Prop :=
  CallsH Tryz.prog 132 [.int .i64 base0] h fun r0 h_0 =>
  DS r0 fun x0 =>
  (⟨#[115, 46]⟩ : ByteArray).size + (x0 : ByteArray).size ≤ 9223372036854775807 ∧
  Q (.string (⟨#[115, 46]⟩ ++ x0)) h_0
theorem F89b_eq : (fun (base0 : Int) (h : Heap) (Q : Value → Heap → Prop) => fnPT Tryz.prog Tryz.f89 (fun _ => annNil) (fun _ => []) (fun _ => none) [.int .i64 base0] h Q) = F89b := by kernel_rfl
theorem F89b_ok {base0 : Int} {h : Heap} {Q : Value → Heap → Prop} (H : F89b base0 h Q) : CallsH Tryz.prog 89 [.int .i64 base0] h Q :=
  callsH_of (ann := fun _ => annNil) (tys := fun _ => []) (pl := fun _ => none) Tryz.func89 (by kernel_rfl) (by have e := F89b_eq; exact (congrFun (congrFun (congrFun (e) base0) h) Q).symm ▸ H)

end Go.Proofs.YticjjdhaikbdaaaGreatDoor
