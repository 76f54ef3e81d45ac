/- The texts over heaps of functions of the program: written by a program of this claim's writer (decomp.py); Lean checks each against the code. -/
import Derived.Test.YticjjdhaikbdaaaFwA
import Derived.Test.YticjjdhaikbdaaaProg
namespace Go.Proofs.Yticjjdhaikbdaaa
open Go Go.RowKit
set_option linter.unusedVariables false
set_option maxRecDepth 100000

/-- headgate/place.Get -/
def F40 (f0 : Option Addr) (dir0 : ByteArray) (name0 : ByteArray) (h : Heap) (Q : Value → Heap → Prop) : Prop :=
  CallsH Try.prog 25 [.pointer f0, .string dir0, .string name0] h fun r0 h_0 =>
  ∃ (x0a : Option Addr), ∃ (x0l : Nat), ∃ (x0c : Nat), ∃ (x1 : Int), r0 = .tuple #[.slice x0a x0l x0c, .int .i64 x1] ∧
  (bif (x1 : Int) != 0 then
    Q (.tuple #[.slice none 0 0, .int .i64 x1]) h_0
  else
    CallsH Try.prog 88 [.slice x0a x0l x0c] h_0 fun r1 h_1 =>
    ∃ (x2a : Option Addr), ∃ (x2l : Nat), ∃ (x2c : Nat), ∃ (x3 : Int), r1 = .tuple #[.slice x2a x2l x2c, .int .i64 x3] ∧
    (bif (x3 : Int) != 0 then
      Q (.tuple #[.slice none 0 0, .int .i64 70]) h_1
    else
      Q (.tuple #[.slice x2a x2l x2c, .int .i64 0]) h_1))
theorem F40_eq : (fun (f0 : Option Addr) (dir0 : ByteArray) (name0 : ByteArray) (h : Heap) (Q : Value → Heap → Prop) => fnPT Try.prog Try.f40 (fun _ => annNil) (fun _ => []) (fun _ => none) [.pointer f0, .string dir0, .string name0] h Q) = F40 := by kernel_rfl
theorem F40_ok {f0 : Option Addr} {dir0 : ByteArray} {name0 : ByteArray} {h : Heap} {Q : Value → Heap → Prop} (H : F40 f0 dir0 name0 h Q) : CallsH Try.prog 40 [.pointer f0, .string dir0, .string name0] h Q :=
  callsH_of (ann := fun _ => annNil) (tys := fun _ => []) (pl := fun _ => none) Try.func40 (by kernel_rfl) (by have e := F40_eq; exact (congrFun (congrFun (congrFun (congrFun (congrFun (e) f0) dir0) name0) h) Q).symm ▸ H)

/-- headgate/place.Clean -/
def F41 (f0 : Option Addr) (dir0 : ByteArray) (h : Heap) (Q : Value → Heap → Prop) : Prop :=
  Al h (.cells #[.pointer f0] 24) fun b0 h_0 =>
  Al h_0 (.cells #[.string dir0] 9) fun b1 h_1 =>
  Al h_1 (.cells #[.int .i64 0] 3) fun b2 h_2 =>
  Al h_2 (.cells #[.int .i64 0] 25) fun b3 h_3 =>
  Ld h_3 (Addr.mk b0 0 none) fun v0 => DP v0 fun x0 =>
  Ld h_3 (Addr.mk b1 0 none) fun v1 => DS v1 fun x1 =>
  CallsH Try.prog 30 [.pointer x0, .string x1] h_3 fun r4 h_4 =>
  ∃ (x2a : Option Addr), ∃ (x2l : Nat), ∃ (x2c : Nat), ∃ (x3 : Int), r4 = .tuple #[.slice x2a x2l x2c, .int .i64 x3] ∧
  (bif (x3 : Int) != 0 then
    StC h_4 ((Addr.mk b2 0 none).add 0) (.int .i64 0) fun h_6 =>
    StC h_6 ((Addr.mk b3 0 none).add 0) (.int .i64 x3) fun h_8 =>
    Ld h_8 (Addr.mk b2 0 none) fun v2 => DI .i64 v2 fun res0 =>
    Ld h_8 (Addr.mk b3 0 none) fun v3 => DI .i64 v3 fun res1 =>
    Q (.tuple #[.int .i64 res0, .int .i64 res1]) h_8
  else
    Al h_4 (.cells #[.int .i64 0] 3) fun b4 h_9 =>
    StC h_9 ((Addr.mk b4 0 none).add 0) (.int .i64 0) fun h_11 =>
    CallsH Try.prog 89 [.slice x2a x2l x2c] h_11 fun r9 h_12 =>
    ∃ (x4 : Value), r9 = x4 ∧
    RangeFn Try.prog x4 1 none h_12 (fun l_0 rec_0 args0 h_13 Q_0 =>
      ∃ (y0 : ByteArray), args0 = [.string y0] ∧
      h_13[l_0]? = some (rec_0 .ready none) ∧
      Ld (h_13.setIfInBounds l_0 (rec_0 .busy none)) (Addr.mk b0 0 none) fun v4 => DP v4 fun x5 =>
      Ld (h_13.setIfInBounds l_0 (rec_0 .busy none)) (Addr.mk b1 0 none) fun v5 => DS v5 fun x6 =>
      CallsH Try.prog 29 [.pointer x5, .string x6, .string y0] (h_13.setIfInBounds l_0 (rec_0 .busy none)) fun r10 h_14 =>
      DI .i64 r10 fun e0 =>
      (bif (e0 : Int) != 0 then
        StC h_14 ((Addr.mk b2 0 none).add 0) (.int .i64 0) fun h_16 =>
        StC h_16 ((Addr.mk b3 0 none).add 0) (.int .i64 e0) fun h_18 =>
        h_18[l_0]? = some (rec_0 .busy none) ∧ Q_0 (.bool false) (h_18.setIfInBounds l_0 (rec_0 .done (some .ret)))
      else
        Ld h_14 (Addr.mk b4 0 none) fun v6 => DI .i64 v6 fun x7 =>
        StC h_14 ((Addr.mk b4 0 none).add 0) (.int .i64 (IntKind.wrap .i64 (x7 + 1))) fun h_20 =>
        h_20[l_0]? = some (rec_0 .busy none) ∧ Q_0 (.bool true) (h_20.setIfInBounds l_0 (rec_0 .ready none)))) (fun pend0 h_21 =>
      (pend0 = none ∨ pend0 = some (.ret)) ∧
      (pend0 = none →
        Ld h_21 (Addr.mk b4 0 none) fun v7 => DI .i64 v7 fun x8 =>
        (bif decide ((x8 : Int) > 0) then
          Ld h_21 (Addr.mk b0 0 none) fun v8 => DP v8 fun x9 =>
          Ld h_21 (Addr.mk b1 0 none) fun v9 => DS v9 fun x10 =>
          CallsH Try.prog 20 [.pointer x9, .string x10] h_21 fun r14 h_22 =>
          DI .i64 r14 fun e1 =>
          (bif (e1 : Int) != 0 then
            StC h_22 ((Addr.mk b2 0 none).add 0) (.int .i64 0) fun h_24 =>
            StC h_24 ((Addr.mk b3 0 none).add 0) (.int .i64 e1) fun h_26 =>
            h_26[h_12.size]? = some (.deferred (some [])) ∧
            Ld (h_26.setIfInBounds h_12.size (.deferred none)) (Addr.mk b2 0 none) fun v10 => DI .i64 v10 fun res2 =>
            Ld (h_26.setIfInBounds h_12.size (.deferred none)) (Addr.mk b3 0 none) fun v11 => DI .i64 v11 fun res3 =>
            Q (.tuple #[.int .i64 res2, .int .i64 res3]) (h_26.setIfInBounds h_12.size (.deferred none))
          else
            Ld h_22 (Addr.mk b4 0 none) fun v12 => DI .i64 v12 fun x11 =>
            StC h_22 ((Addr.mk b2 0 none).add 0) (.int .i64 x11) fun h_28 =>
            StC h_28 ((Addr.mk b3 0 none).add 0) (.int .i64 0) fun h_30 =>
            h_30[h_12.size]? = some (.deferred (some [])) ∧
            Ld (h_30.setIfInBounds h_12.size (.deferred none)) (Addr.mk b2 0 none) fun v13 => DI .i64 v13 fun res4 =>
            Ld (h_30.setIfInBounds h_12.size (.deferred none)) (Addr.mk b3 0 none) fun v14 => DI .i64 v14 fun res5 =>
            Q (.tuple #[.int .i64 res4, .int .i64 res5]) (h_30.setIfInBounds h_12.size (.deferred none)))
        else
          Ld h_21 (Addr.mk b4 0 none) fun v15 => DI .i64 v15 fun x12 =>
          StC h_21 ((Addr.mk b2 0 none).add 0) (.int .i64 x12) fun h_32 =>
          StC h_32 ((Addr.mk b3 0 none).add 0) (.int .i64 0) fun h_34 =>
          h_34[h_12.size]? = some (.deferred (some [])) ∧
          Ld (h_34.setIfInBounds h_12.size (.deferred none)) (Addr.mk b2 0 none) fun v16 => DI .i64 v16 fun res6 =>
          Ld (h_34.setIfInBounds h_12.size (.deferred none)) (Addr.mk b3 0 none) fun v17 => DI .i64 v17 fun res7 =>
          Q (.tuple #[.int .i64 res6, .int .i64 res7]) (h_34.setIfInBounds h_12.size (.deferred none)))) ∧
      (pend0 = some (.ret) →
        h_21[h_12.size]? = some (.deferred (some [])) ∧
        Ld (h_21.setIfInBounds h_12.size (.deferred none)) (Addr.mk b2 0 none) fun v18 => DI .i64 v18 fun res8 =>
        Ld (h_21.setIfInBounds h_12.size (.deferred none)) (Addr.mk b3 0 none) fun v19 => DI .i64 v19 fun res9 =>
        Q (.tuple #[.int .i64 res8, .int .i64 res9]) (h_21.setIfInBounds h_12.size (.deferred none)))))
theorem F41_eq : (fun (f0 : Option Addr) (dir0 : ByteArray) (h : Heap) (Q : Value → Heap → Prop) => fnPT Try.prog Try.f41 (fun _ => annNil) (fun i => bif Nat.beq i 0 then [9] else []) (fun _ => none) [.pointer f0, .string dir0] h Q) = F41 := by kernel_rfl
theorem F41_ok {f0 : Option Addr} {dir0 : ByteArray} {h : Heap} {Q : Value → Heap → Prop} (H : F41 f0 dir0 h Q) : CallsH Try.prog 41 [.pointer f0, .string dir0] h Q :=
  callsH_of (ann := fun _ => annNil) (tys := fun i => bif Nat.beq i 0 then [9] else []) (pl := fun _ => none) Try.func41 (by kernel_rfl) (by have e := F41_eq; exact (congrFun (congrFun (congrFun (congrFun (e) f0) dir0) h) Q).symm ▸ H)

/-- headgate/place.Ready -/
def F42 (f0 : Option Addr) (dir0 : ByteArray) (h : Heap) (Q : Value → Heap → Prop) : Prop :=
  CallsH Try.prog 30 [.pointer f0, .string dir0] h fun r0 h_0 =>
  ∃ (x0a : Option Addr), ∃ (x0l : Nat), ∃ (x0c : Nat), ∃ (x1 : Int), r0 = .tuple #[.slice x0a x0l x0c, .int .i64 x1] ∧
  (bif (x1 : Int) == 61 then
    CallsH Try.prog 16 [.pointer f0, .string dir0] h_0 fun r1 h_1 =>
    DI .i64 r1 fun e0 =>
    (bif (e0 : Int) != 0 then
      Q (.tuple #[.slice none 0 0, .int .i64 e0]) h_1
    else
      CallsH Try.prog 41 [.pointer f0, .string dir0] h_1 fun r2 h_2 =>
      ∃ (x2 : Int), ∃ (x3 : Int), r2 = .tuple #[.int .i64 x2, .int .i64 x3] ∧
      (bif (x3 : Int) != 0 then
        Q (.tuple #[.slice none 0 0, .int .i64 x3]) h_2
      else
        CallsH Try.prog 30 [.pointer f0, .string dir0] h_2 fun r3 h_3 =>
        ∃ (x4a : Option Addr), ∃ (x4l : Nat), ∃ (x4c : Nat), ∃ (x5 : Int), r3 = .tuple #[.slice x4a x4l x4c, .int .i64 x5] ∧
        Q (.tuple #[.slice x4a x4l x4c, .int .i64 x5]) h_3))
  else
    CallsH Try.prog 41 [.pointer f0, .string dir0] h_0 fun r4 h_4 =>
    ∃ (x6 : Int), ∃ (x7 : Int), r4 = .tuple #[.int .i64 x6, .int .i64 x7] ∧
    (bif (x7 : Int) != 0 then
      Q (.tuple #[.slice none 0 0, .int .i64 x7]) h_4
    else
      CallsH Try.prog 30 [.pointer f0, .string dir0] h_4 fun r5 h_5 =>
      ∃ (x8a : Option Addr), ∃ (x8l : Nat), ∃ (x8c : Nat), ∃ (x9 : Int), r5 = .tuple #[.slice x8a x8l x8c, .int .i64 x9] ∧
      Q (.tuple #[.slice x8a x8l x8c, .int .i64 x9]) h_5))
theorem F42_eq : (fun (f0 : Option Addr) (dir0 : ByteArray) (h : Heap) (Q : Value → Heap → Prop) => fnPT Try.prog Try.f42 (fun _ => annNil) (fun _ => []) (fun _ => none) [.pointer f0, .string dir0] h Q) = F42 := by kernel_rfl
theorem F42_ok {f0 : Option Addr} {dir0 : ByteArray} {h : Heap} {Q : Value → Heap → Prop} (H : F42 f0 dir0 h Q) : CallsH Try.prog 42 [.pointer f0, .string dir0] h Q :=
  callsH_of (ann := fun _ => annNil) (tys := fun _ => []) (pl := fun _ => none) Try.func42 (by kernel_rfl) (by have e := F42_eq; exact (congrFun (congrFun (congrFun (congrFun (e) f0) dir0) h) Q).symm ▸ H)

/-- headgate/place.Put -/
def F43 (f0 : Option Addr) (dir0 : ByteArray) (name0 : ByteArray) (b0a : Option Addr) (b0l : Nat) (b0c : Nat) (h : Heap) (Q : Value → Heap → Prop) : Prop :=
  (bif (f0).isNone then
    Q (.int .i64 1) h
  else
    CallsH Try.prog 90 [.slice b0a b0l b0c] h fun r0 h_0 =>
    ∃ (x0a : Option Addr), ∃ (x0l : Nat), ∃ (x0c : Nat), ∃ (x1 : Int), r0 = .tuple #[.slice x0a x0l x0c, .int .i64 x1] ∧
    (bif (x1 : Int) != 0 then
      Q (.int .i64 x1) h_0
    else
      CallsH Try.prog 44 [.pointer f0, .string dir0, .string name0, .slice x0a x0l x0c] h_0 fun r1 h_1 =>
      DI .i64 r1 fun x2 =>
      Q (.int .i64 x2) h_1))
theorem F43_eq : (fun (f0 : Option Addr) (dir0 : ByteArray) (name0 : ByteArray) (b0a : Option Addr) (b0l : Nat) (b0c : Nat) (h : Heap) (Q : Value → Heap → Prop) => fnPT Try.prog Try.f43 (fun _ => annNil) (fun _ => []) (fun _ => none) [.pointer f0, .string dir0, .string name0, .slice b0a b0l b0c] h Q) = F43 := by kernel_rfl
theorem F43_ok {f0 : Option Addr} {dir0 : ByteArray} {name0 : ByteArray} {b0a : Option Addr} {b0l : Nat} {b0c : Nat} {h : Heap} {Q : Value → Heap → Prop} (H : F43 f0 dir0 name0 b0a b0l b0c h Q) : CallsH Try.prog 43 [.pointer f0, .string dir0, .string name0, .slice b0a b0l b0c] h Q :=
  callsH_of (ann := fun _ => annNil) (tys := fun _ => []) (pl := fun _ => none) Try.func43 (by kernel_rfl) (by have e := F43_eq; exact (congrFun (congrFun (congrFun (congrFun (congrFun (congrFun (congrFun (congrFun (e) f0) dir0) name0) b0a) b0l) b0c) h) Q).symm ▸ H)

/-- headgate/place.Raw -/
def F44 (f0 : Option Addr) (dir0 : ByteArray) (name0 : ByteArray) (b0a : Option Addr) (b0l : Nat) (b0c : Nat) (h : Heap) (Q : Value → Heap → Prop) : Prop :=
  Al h (.cells #[.pointer f0] 24) fun b1 h_0 =>
  Al h_0 (.cells #[.string dir0] 9) fun b2 h_1 =>
  Al h_1 (.cells #[.string name0] 9) fun b3 h_2 =>
  Al h_2 (.cells #[.slice b0a b0l b0c] 31) fun b4 h_3 =>
  Ld h_3 (Addr.mk b1 0 none) fun v0 => DP v0 fun x0 =>
  (bif (x0).isNone then
    Q (.int .i64 1) h_3
  else
    Ld h_3 (Addr.mk b3 0 none) fun v1 => DS v1 fun x1 =>
    (bif decide ((((x1 : ByteArray).size : Int) : Int) > 28) then
      Q (.int .i64 65) h_3
    else
      Ld h_3 (Addr.mk b3 0 none) fun v2 => DS v2 fun x2 =>
      (⟨#[116, 109, 112, 46]⟩ : ByteArray).size + (x2 : ByteArray).size ≤ 9223372036854775807 ∧
      Al h_3 (.cells #[.string .empty] 9) fun b5 h_4 =>
      StC h_4 ((Addr.mk b5 0 none).add 0) (.string (⟨#[116, 109, 112, 46]⟩ ++ x2)) fun h_6 =>
      Ld h_6 (Addr.mk b1 0 none) fun v3 => DP v3 fun x3 =>
      Ld h_6 (Addr.mk b2 0 none) fun v4 => DS v4 fun x4 =>
      CallsH Try.prog 30 [.pointer x3, .string x4] h_6 fun r6 h_7 =>
      ∃ (x5a : Option Addr), ∃ (x5l : Nat), ∃ (x5c : Nat), ∃ (x6 : Int), r6 = .tuple #[.slice x5a x5l x5c, .int .i64 x6] ∧
      (bif (x6 : Int) != 0 then
        Q (.int .i64 x6) h_7
      else
        Al h_7 (.cells #[.func (.func 91) #[] #[.pointer (some (Addr.mk b1 0 none)), .pointer (some (Addr.mk b2 0 none)), .pointer (some (Addr.mk b5 0 none))], .func (.func 92) #[] #[.pointer (some (Addr.mk b1 0 none)), .pointer (some (Addr.mk b2 0 none)), .pointer (some (Addr.mk b5 0 none)), .pointer (some (Addr.mk b4 0 none))], .func (.func 93) #[] #[.pointer (some (Addr.mk b1 0 none)), .pointer (some (Addr.mk b2 0 none)), .pointer (some (Addr.mk b5 0 none))], .func (.func 94) #[] #[.pointer (some (Addr.mk b1 0 none)), .pointer (some (Addr.mk b2 0 none)), .pointer (some (Addr.mk b5 0 none)), .pointer (some (Addr.mk b3 0 none))], .func (.func 95) #[] #[.pointer (some (Addr.mk b1 0 none)), .pointer (some (Addr.mk b2 0 none))]] 78) fun b6 h_8 =>
        Ld h_8 (Addr.mk b5 0 none) fun v5 => DS v5 fun x7 =>
        CallsH Try.prog 96 [.slice x5a x5l x5c, .string x7] h_8 fun r8 h_9 =>
        DB r8 fun x8 =>
        (bif x8 then
          Al h_9 (.cells #[.func (.func 97) #[] #[.pointer (some (Addr.mk b1 0 none)), .pointer (some (Addr.mk b2 0 none)), .pointer (some (Addr.mk b5 0 none))]] 78) fun b7 h_10 =>
          RunH Try.prog (Builtin.append_ #[129, 129] 129 #[.slice (some (Addr.mk b7 0 none)) 1 1, .slice (some (Addr.mk b6 0 none)) 5 5]) h_10 fun r10 h_11 =>
          DSl r10 fun steps0a steps0l steps0c =>
          LoopH (fun again0 (s0 : Int) h_12 =>
            (bif decide ((s0 : Int) < (steps0l : Int)) then
              IdxA steps0a steps0l s0 1 fun a0 =>
              Ld h_12 a0 fun v6 => ∃ (s1 : Value), v6 = s1 ∧
              CallV Try.prog s1 [] h_12 fun r11 h_13 =>
              DI .i64 r11 fun e0 =>
              (bif (e0 : Int) != 0 then
                Q (.int .i64 e0) h_13
              else
                again0 (IntKind.wrap .i64 (s0 + 1)) h_13)
            else
              Q (.int .i64 0) h_12)) 0 h_11
        else
          LoopH (fun again1 (s2 : Int) h_14 =>
            (bif decide ((s2 : Int) < (5 : Int)) then
              IdxA (some (Addr.mk b6 0 none)) 5 s2 1 fun a1 =>
              Ld h_14 a1 fun v7 => ∃ (s3 : Value), v7 = s3 ∧
              CallV Try.prog s3 [] h_14 fun r12 h_15 =>
              DI .i64 r12 fun e1 =>
              (bif (e1 : Int) != 0 then
                Q (.int .i64 e1) h_15
              else
                again1 (IntKind.wrap .i64 (s2 + 1)) h_15)
            else
              Q (.int .i64 0) h_14)) 0 h_9))))
theorem F44_eq : (fun (f0 : Option Addr) (dir0 : ByteArray) (name0 : ByteArray) (b0a : Option Addr) (b0l : Nat) (b0c : Nat) (h : Heap) (Q : Value → Heap → Prop) => fnPT Try.prog Try.f44 (fun i => bif Nat.beq i 0 then annOne 47 (codI .i64) else annNil) (fun _ => []) (fun _ => none) [.pointer f0, .string dir0, .string name0, .slice b0a b0l b0c] h Q) = F44 := by kernel_rfl
theorem F44_ok {f0 : Option Addr} {dir0 : ByteArray} {name0 : ByteArray} {b0a : Option Addr} {b0l : Nat} {b0c : Nat} {h : Heap} {Q : Value → Heap → Prop} (H : F44 f0 dir0 name0 b0a b0l b0c h Q) : CallsH Try.prog 44 [.pointer f0, .string dir0, .string name0, .slice b0a b0l b0c] h Q :=
  callsH_of (ann := fun i => bif Nat.beq i 0 then annOne 47 (codI .i64) else annNil) (tys := fun _ => []) (pl := fun _ => none) Try.func44 (by kernel_rfl) (by have e := F44_eq; exact (congrFun (congrFun (congrFun (congrFun (congrFun (congrFun (congrFun (congrFun (e) f0) dir0) name0) b0a) b0l) b0c) h) Q).symm ▸ H)

/-- headgate/place.Unhex -/
def F45 (s0 : ByteArray) (h : Heap) (Q : Value → Heap → Prop) : Prop :=
  RunH Try.prog (Go.convert 9 31 (.string s0)) h fun r0 h_0 =>
  DSl r0 fun x0a x0l x0c =>
  LoopH (fun again0 (s1 : Int × Int) h_1 =>
    (bif decide ((s1.2 : Int) < (x0l : Int)) then
      IdxA x0a x0l s1.2 1 fun a0 =>
      Ld h_1 a0 fun v0 => DI .u8 v0 fun c0 =>
      CallsH Try.prog 98 [.string ⟨#[48, 49, 50, 51, 52, 53, 54, 55, 56, 57, 97, 98, 99, 100, 101, 102]⟩, .int .u8 c0] h_1 fun r1 h_2 =>
      DI .i64 r1 fun k0 =>
      (bif decide ((k0 : Int) < 0) then
        Q (.tuple #[.int .i64 0, .bool false]) h_2
      else
        (bif (((s0 : ByteArray).size : Int) : Int) != 16 then
          Q (.tuple #[.int .i64 0, .bool false]) h_2
        else
          0 ≤ (4 : Int) ∧
          again0 (bitsI .or .u64 (shlI .u64 s1.1 4) (IntKind.wrap .u64 k0), IntKind.wrap .i64 (s1.2 + 1)) h_2))
    else
      (bif (((s0 : ByteArray).size : Int) : Int) != 16 then
        Q (.tuple #[.int .i64 0, .bool false]) h_1
      else
        0 ≤ (63 : Int) ∧
        (bif ((shrI .u64 s1.1 63) : Int) == 1 then
          Q (.tuple #[.int .i64 0, .bool false]) h_1
        else
          Q (.tuple #[.int .i64 (IntKind.wrap .i64 s1.1), .bool true]) h_1)))) (0, 0) h_0
theorem F45_eq : (fun (s0 : ByteArray) (h : Heap) (Q : Value → Heap → Prop) => fnPT Try.prog Try.f45 (fun i => bif Nat.beq i 0 then annCons 4 (codI .u64) (annOne 11 (codI .i64)) else annNil) (fun _ => []) (fun _ => none) [.string s0] h Q) = F45 := by kernel_rfl
theorem F45_ok {s0 : ByteArray} {h : Heap} {Q : Value → Heap → Prop} (H : F45 s0 h Q) : CallsH Try.prog 45 [.string s0] h Q :=
  callsH_of (ann := fun i => bif Nat.beq i 0 then annCons 4 (codI .u64) (annOne 11 (codI .i64)) else annNil) (tys := fun _ => []) (pl := fun _ => none) Try.func45 (by kernel_rfl) (by have e := F45_eq; exact (congrFun (congrFun (congrFun (e) s0) h) Q).symm ▸ H)

/-- headgate/headgateref07.Unhex -/
def F46 (s0 : ByteArray) (h : Heap) (Q : Value → Heap → Prop) : Prop :=
  (bif (((s0 : ByteArray).size : Int) : Int) != 16 then
    Q (.tuple #[.int .i64 0, .bool false]) h
  else
    0 ≤ (0 : Int) ∧ (0 : Int) < ((s0 : ByteArray).size : Int) ∧
    (bif decide (((bt s0 0) : Int) > 55) then
      Q (.tuple #[.int .i64 0, .bool false]) h
    else
      LoopH (fun again0 (s1 : Int × Int) h_0 =>
        (bif decide ((s1.2 : Int) < 16) then
          0 ≤ (s1.2 : Int) ∧ (s1.2 : Int) < ((s0 : ByteArray).size : Int) ∧
          (bif decide (((bt s0 s1.2) : Int) ≥ 48) then
            (bif decide (((bt s0 s1.2) : Int) ≤ 57) then
              again0 (IntKind.wrap .i64 ((IntKind.wrap .i64 (s1.1 * 16)) + (IntKind.wrap .i64 (IntKind.wrap .u8 ((bt s0 s1.2) - 48)))), IntKind.wrap .i64 (s1.2 + 1)) h_0
            else
              (bif decide (((bt s0 s1.2) : Int) ≥ 97) then
                (bif decide (((bt s0 s1.2) : Int) ≤ 102) then
                  again0 (IntKind.wrap .i64 ((IntKind.wrap .i64 ((IntKind.wrap .i64 (s1.1 * 16)) + (IntKind.wrap .i64 (IntKind.wrap .u8 ((bt s0 s1.2) - 97))))) + 10), IntKind.wrap .i64 (s1.2 + 1)) h_0
                else
                  Q (.tuple #[.int .i64 0, .bool false]) h_0)
              else
                Q (.tuple #[.int .i64 0, .bool false]) h_0))
          else
            (bif decide (((bt s0 s1.2) : Int) ≥ 97) then
              (bif decide (((bt s0 s1.2) : Int) ≤ 102) then
                again0 (IntKind.wrap .i64 ((IntKind.wrap .i64 ((IntKind.wrap .i64 (s1.1 * 16)) + (IntKind.wrap .i64 (IntKind.wrap .u8 ((bt s0 s1.2) - 97))))) + 10), IntKind.wrap .i64 (s1.2 + 1)) h_0
              else
                Q (.tuple #[.int .i64 0, .bool false]) h_0)
            else
              Q (.tuple #[.int .i64 0, .bool false]) h_0))
        else
          Q (.tuple #[.int .i64 s1.1, .bool true]) h_0)) (0, 0) h))
theorem F46_eq : (fun (s0 : ByteArray) (h : Heap) (Q : Value → Heap → Prop) => fnPT Try.prog Try.f46 (fun i => bif Nat.beq i 0 then annCons 4 (codI .i64) (annOne 5 (codI .i64)) else annNil) (fun _ => []) (fun _ => none) [.string s0] h Q) = F46 := by kernel_rfl
theorem F46_ok {s0 : ByteArray} {h : Heap} {Q : Value → Heap → Prop} (H : F46 s0 h Q) : CallsH Try.prog 46 [.string s0] h Q :=
  callsH_of (ann := fun i => bif Nat.beq i 0 then annCons 4 (codI .i64) (annOne 5 (codI .i64)) else annNil) (tys := fun _ => []) (pl := fun _ => none) Try.func46 (by kernel_rfl) (by have e := F46_eq; exact (congrFun (congrFun (congrFun (e) s0) h) Q).symm ▸ H)

/-- headgate/headgateref07.Hex -/
def F47 (n0 : Int) (h : Heap) (Q : Value → Heap → Prop) : Prop :=
  LoopH (fun again0 (s0 : Int × ByteArray × Int) h_0 =>
    (bif decide ((s0.2.2 : Int) < 16) then
      (16 : Int) ≠ 0 ∧
      (bif decide (((IntKind.wrap .u8 (Int.tmod s0.1 16)) : Int) > 9) then
        Al h_0 (.cells #[.int .u8 (IntKind.wrap .u8 ((IntKind.wrap .u8 (97 + (IntKind.wrap .u8 (Int.tmod s0.1 16)))) - 10))] 5) fun b0 h_1 =>
        ∃ bs0 : ByteArray, BytesIn h_1 (some (Addr.mk b0 0 none)) 1 bs0 ∧
        (bs0 : ByteArray).size + (s0.2.1 : ByteArray).size ≤ 9223372036854775807 ∧
        (16 : Int) ≠ 0 ∧
        again0 (IntKind.wrap .u64 (Int.tdiv s0.1 16), bs0 ++ s0.2.1, IntKind.wrap .i64 (s0.2.2 + 1)) h_1
      else
        Al h_0 (.cells #[.int .u8 (IntKind.wrap .u8 (48 + (IntKind.wrap .u8 (Int.tmod s0.1 16))))] 5) fun b1 h_2 =>
        ∃ bs1 : ByteArray, BytesIn h_2 (some (Addr.mk b1 0 none)) 1 bs1 ∧
        (bs1 : ByteArray).size + (s0.2.1 : ByteArray).size ≤ 9223372036854775807 ∧
        (16 : Int) ≠ 0 ∧
        again0 (IntKind.wrap .u64 (Int.tdiv s0.1 16), bs1 ++ s0.2.1, IntKind.wrap .i64 (s0.2.2 + 1)) h_2)
    else
      Q (.string s0.2.1) h_0)) (IntKind.wrap .u64 n0, .empty, 0) h
theorem F47_eq : (fun (n0 : Int) (h : Heap) (Q : Value → Heap → Prop) => fnPT Try.prog Try.f47 (fun i => bif Nat.beq i 0 then annCons 3 (codI .u64) (annCons 4 (codS) (annOne 5 (codI .i64))) else annNil) (fun _ => []) (fun _ => none) [.int .i64 n0] h Q) = F47 := by kernel_rfl
theorem F47_ok {n0 : Int} {h : Heap} {Q : Value → Heap → Prop} (H : F47 n0 h Q) : CallsH Try.prog 47 [.int .i64 n0] h Q :=
  callsH_of (ann := fun i => bif Nat.beq i 0 then annCons 3 (codI .u64) (annCons 4 (codS) (annOne 5 (codI .i64))) else annNil) (tys := fun _ => []) (pl := fun _ => none) Try.func47 (by kernel_rfl) (by have e := F47_eq; exact (congrFun (congrFun (congrFun (e) n0) h) Q).symm ▸ H)

/-- headgate/headgatelaw10.alive -/
def F48 (h : Heap) (Q : Value → Heap → Prop) : Prop :=
  CallsH Try.prog 15 [.int .i64 1000] h fun r0 h_0 =>
  ∃ (x0 : Option Addr), ∃ (x1 : Int), r0 = .tuple #[.pointer x0, .int .i64 x1] ∧
  (bif (x1 : Int) != 0 then
    Q (.bool false) h_0
  else
    (bif (x0).isNone then
      Q (.bool false) h_0
    else
      CallsH Try.prog 49 [.pointer x0, .string ⟨#[112]⟩, .int .i64 10] h_0 fun r1 h_1 =>
      ∃ (x2 : Option Addr), ∃ (x3 : Int), r1 = .tuple #[.pointer x2, .int .i64 x3] ∧
      (bif (x3 : Int) != 0 then
        Q (.bool false) h_1
      else
        (bif (x2).isNone then
          Q (.bool false) h_1
        else
          Al h_1 (.cells #[.int .u8 97, .int .u8 98] 5) fun b0 h_2 =>
          RunH Try.prog (Go.convert 31 31 (.slice (some (Addr.mk b0 0 none)) 2 2)) h_2 fun r3 h_3 =>
          DSl r3 fun x4a x4l x4c =>
          CallsH Try.prog 50 [.pointer x2, .slice x4a x4l x4c] h_3 fun r4 h_4 =>
          ∃ (x5 : Int), ∃ (x6 : Int), r4 = .tuple #[.int .i64 x5, .int .i64 x6] ∧
          Al h_4 (.cells #[.int .u8 99, .int .u8 100] 5) fun b1 h_5 =>
          RunH Try.prog (Go.convert 31 31 (.slice (some (Addr.mk b1 0 none)) 2 2)) h_5 fun r6 h_6 =>
          DSl r6 fun x7a x7l x7c =>
          CallsH Try.prog 50 [.pointer x2, .slice x7a x7l x7c] h_6 fun r7 h_7 =>
          ∃ (x8 : Int), ∃ (x9 : Int), r7 = .tuple #[.int .i64 x8, .int .i64 x9] ∧
          CallsH Try.prog 51 [.pointer x2, .int .i64 1, .int .i64 2] h_7 fun r8 h_8 =>
          ∃ (x10a : Option Addr), ∃ (x10l : Nat), ∃ (x10c : Nat), ∃ (x11 : Int), r8 = .tuple #[.slice x10a x10l x10c, .int .i64 x11] ∧
          (bif (x6 : Int) == 0 then
            (bif (x9 : Int) == 0 then
              (bif (x5 : Int) == 0 then
                (bif (x8 : Int) == 1 then
                  CallsH Try.prog 55 [.pointer x2] h_8 fun r9 h_9 =>
                  DI .i64 r9 fun x12 =>
                  (bif (x12 : Int) == 2 then
                    CallsH Try.prog 54 [.pointer x2] h_9 fun r10 h_10 =>
                    DI .i64 r10 fun x13 =>
                    (bif (x13 : Int) == 1 then
                      (bif (x11 : Int) == 0 then
                        (bif ((x10l : Int) : Int) == 1 then
                          IdxA x10a x10l 0 1 fun a0 =>
                          Ld h_10 a0 fun v0 => DSl v0 fun x14a x14l x14c =>
                          ∃ bs0 : ByteArray, BytesIn h_10 x14a x14l bs0 ∧
                          Q (.bool (strEq bs0 ⟨#[99, 100]⟩)) h_10
                        else
                          Q (.bool false) h_10)
                      else
                        Q (.bool false) h_10)
                    else
                      Q (.bool false) h_10)
                  else
                    Q (.bool false) h_9)
                else
                  Q (.bool false) h_8)
              else
                Q (.bool false) h_8)
            else
              Q (.bool false) h_8)
          else
            Q (.bool false) h_8)))))
theorem F48_eq : (fun (h : Heap) (Q : Value → Heap → Prop) => fnPT Try.prog Try.f48 (fun _ => annNil) (fun _ => []) (fun _ => none) [] h Q) = F48 := by kernel_rfl
theorem F48_ok {h : Heap} {Q : Value → Heap → Prop} (H : F48 h Q) : CallsH Try.prog 48 [] h Q :=
  callsH_of (ann := fun _ => annNil) (tys := fun _ => []) (pl := fun _ => none) Try.func48 (by kernel_rfl) (by have e := F48_eq; exact (congrFun (congrFun (e) h) Q).symm ▸ H)

/-- headgate/segment.Open -/
def F49 (f0 : Option Addr) (dir0 : ByteArray) (size0 : Int) (h : Heap) (Q : Value → Heap → Prop) : Prop :=
  (bif decide ((size0 : Int) < 1) then
    Q (.tuple #[.pointer none, .int .i64 2]) h
  else
    (bif decide ((size0 : Int) > 16777216) then
      Q (.tuple #[.pointer none, .int .i64 2]) h
    else
      CallsH Try.prog 42 [.pointer f0, .string dir0] h fun r0 h_0 =>
      ∃ (x0a : Option Addr), ∃ (x0l : Nat), ∃ (x0c : Nat), ∃ (x1 : Int), r0 = .tuple #[.slice x0a x0l x0c, .int .i64 x1] ∧
      (bif (x1 : Int) != 0 then
        Q (.tuple #[.pointer none, .int .i64 x1]) h_0
      else
        Al h_0 (.cells #[.pointer f0, .string dir0, .int .i64 size0, .slice none 0 0, .int .i64 0, .int .i64 0] 134) fun b0 h_1 =>
        CallsH Try.prog 100 [.slice x0a x0l x0c] h_1 fun r2 h_2 =>
        DSl r2 fun x2a x2l x2c =>
        CallsH Try.prog 99 [.pointer (some (Addr.mk b0 0 none)), .slice x2a x2l x2c] h_2 fun r3 h_3 =>
        DI .i64 r3 fun e0 =>
        (bif (e0 : Int) != 0 then
          Q (.tuple #[.pointer none, .int .i64 e0]) h_3
        else
          CallsH Try.prog 52 [.pointer (some (Addr.mk b0 0 none))] h_3 fun r4 h_4 =>
          DI .i64 r4 fun e1 =>
          (bif (e1 : Int) != 0 then
            Q (.tuple #[.pointer none, .int .i64 e1]) h_4
          else
            Q (.tuple #[.pointer (some (Addr.mk b0 0 none)), .int .i64 0]) h_4)))))
theorem F49_eq : (fun (f0 : Option Addr) (dir0 : ByteArray) (size0 : Int) (h : Heap) (Q : Value → Heap → Prop) => fnPT Try.prog Try.f49 (fun _ => annNil) (fun _ => []) (fun _ => none) [.pointer f0, .string dir0, .int .i64 size0] h Q) = F49 := by kernel_rfl
theorem F49_ok {f0 : Option Addr} {dir0 : ByteArray} {size0 : Int} {h : Heap} {Q : Value → Heap → Prop} (H : F49 f0 dir0 size0 h Q) : CallsH Try.prog 49 [.pointer f0, .string dir0, .int .i64 size0] h Q :=
  callsH_of (ann := fun _ => annNil) (tys := fun _ => []) (pl := fun _ => none) Try.func49 (by kernel_rfl) (by have e := F49_eq; exact (congrFun (congrFun (congrFun (congrFun (congrFun (e) f0) dir0) size0) h) Q).symm ▸ H)

/-- (*headgate/segment.Log).Append -/
def F50 (l_0 : Option Addr) (b0a : Option Addr) (b0l : Nat) (b0c : Nat) (h : Heap) (Q : Value → Heap → Prop) : Prop :=
  (bif (l_0).isNone then
    Q (.tuple #[.int .i64 0, .int .i64 1]) h
  else
    (bif decide (((b0l : Int) : Int) > 1024) then
      Q (.tuple #[.int .i64 0, .int .i64 100]) h
    else
      CallsH Try.prog 101 [.pointer l_0] h fun r0 h_0 =>
      DP r0 fun p0 =>
      (bif (p0).isNone then
        CallsH Try.prog 102 [.pointer l_0] h_0 fun r1 h_1 =>
        DI .i64 r1 fun e0 =>
        (bif (e0 : Int) != 0 then
          Q (.tuple #[.int .i64 0, .int .i64 e0]) h_1
        else
          CallsH Try.prog 90 [.slice b0a b0l b0c] h_1 fun r2 h_2 =>
          ∃ (x0a : Option Addr), ∃ (x0l : Nat), ∃ (x0c : Nat), ∃ (x1 : Int), r2 = .tuple #[.slice x0a x0l x0c, .int .i64 x1] ∧
          (bif (x1 : Int) != 0 then
            Q (.tuple #[.int .i64 0, .int .i64 x1]) h_2
          else
            CallsH Try.prog 101 [.pointer l_0] h_2 fun r3 h_3 =>
            DP r3 fun p1 =>
            NN' l_0 fun a0 =>
            Ld h_3 (a0.add 0) fun v0 => DP v0 fun x2 =>
            NN' l_0 fun a1 =>
            Ld h_3 (a1.add 1) fun v1 => DS v1 fun x3 =>
            NN' p1 fun a2 =>
            Ld h_3 (a2.add 0) fun v2 => DI .i64 v2 fun x4 =>
            ∃ r5, (CallsH Try.prog 103 [.int .i64 x4] h_3 fun r4 h_4 =>
            r4 = r5 ∧ h_4 = h_3) ∧
            DS r5 fun x5 =>
            ∃ r7, (CallsH Try.prog 18 [.pointer x2, .string x3, .string x5, .slice x0a x0l x0c] h_3 fun r6 h_5 =>
            r6 = r7 ∧ h_5 = h_3) ∧
            DI .i64 r7 fun e1 =>
            (bif (e1 : Int) != 0 then
              Q (.tuple #[.int .i64 0, .int .i64 e1]) h_3
            else
              NN' p1 fun a3 =>
              Ld h_3 (a3.add 1) fun v3 => DI .i64 v3 fun x6 =>
              NN' p1 fun a4 =>
              StC h_3 ((a4.add 1).add 0) (.int .i64 (IntKind.wrap .i64 (x6 + 1))) fun h_7 =>
              NN' p1 fun a5 =>
              Ld h_7 (a5.add 2) fun v4 => DI .i64 v4 fun x7 =>
              NN' p1 fun a6 =>
              StC h_7 ((a6.add 2).add 0) (.int .i64 (IntKind.wrap .i64 (x7 + (x0l : Int)))) fun h_9 =>
              NN' l_0 fun a7 =>
              Ld h_9 (a7.add 4) fun v5 => DI .i64 v5 fun x8 =>
              NN' l_0 fun a8 =>
              StC h_9 ((a8.add 4).add 0) (.int .i64 (IntKind.wrap .i64 (x8 + 1))) fun h_11 =>
              NN' l_0 fun a9 =>
              Ld h_11 (a9.add 4) fun v6 => DI .i64 v6 fun x9 =>
              Q (.tuple #[.int .i64 (IntKind.wrap .i64 (x9 - 1)), .int .i64 0]) h_11)))
      else
        NN' p0 fun a10 =>
        Ld h_0 (a10.add 2) fun v7 => DI .i64 v7 fun x10 =>
        NN' l_0 fun a11 =>
        Ld h_0 (a11.add 2) fun v8 => DI .i64 v8 fun x11 =>
        (bif decide ((x10 : Int) ≥ x11) then
          CallsH Try.prog 102 [.pointer l_0] h_0 fun r11 h_12 =>
          DI .i64 r11 fun e2 =>
          (bif (e2 : Int) != 0 then
            Q (.tuple #[.int .i64 0, .int .i64 e2]) h_12
          else
            CallsH Try.prog 90 [.slice b0a b0l b0c] h_12 fun r12 h_13 =>
            ∃ (x12a : Option Addr), ∃ (x12l : Nat), ∃ (x12c : Nat), ∃ (x13 : Int), r12 = .tuple #[.slice x12a x12l x12c, .int .i64 x13] ∧
            (bif (x13 : Int) != 0 then
              Q (.tuple #[.int .i64 0, .int .i64 x13]) h_13
            else
              CallsH Try.prog 101 [.pointer l_0] h_13 fun r13 h_14 =>
              DP r13 fun p2 =>
              NN' l_0 fun a12 =>
              Ld h_14 (a12.add 0) fun v9 => DP v9 fun x14 =>
              NN' l_0 fun a13 =>
              Ld h_14 (a13.add 1) fun v10 => DS v10 fun x15 =>
              NN' p2 fun a14 =>
              Ld h_14 (a14.add 0) fun v11 => DI .i64 v11 fun x16 =>
              ∃ r15, (CallsH Try.prog 103 [.int .i64 x16] h_14 fun r14 h_15 =>
              r14 = r15 ∧ h_15 = h_14) ∧
              DS r15 fun x17 =>
              ∃ r17, (CallsH Try.prog 18 [.pointer x14, .string x15, .string x17, .slice x12a x12l x12c] h_14 fun r16 h_16 =>
              r16 = r17 ∧ h_16 = h_14) ∧
              DI .i64 r17 fun e3 =>
              (bif (e3 : Int) != 0 then
                Q (.tuple #[.int .i64 0, .int .i64 e3]) h_14
              else
                NN' p2 fun a15 =>
                Ld h_14 (a15.add 1) fun v12 => DI .i64 v12 fun x18 =>
                NN' p2 fun a16 =>
                StC h_14 ((a16.add 1).add 0) (.int .i64 (IntKind.wrap .i64 (x18 + 1))) fun h_18 =>
                NN' p2 fun a17 =>
                Ld h_18 (a17.add 2) fun v13 => DI .i64 v13 fun x19 =>
                NN' p2 fun a18 =>
                StC h_18 ((a18.add 2).add 0) (.int .i64 (IntKind.wrap .i64 (x19 + (x12l : Int)))) fun h_20 =>
                NN' l_0 fun a19 =>
                Ld h_20 (a19.add 4) fun v14 => DI .i64 v14 fun x20 =>
                NN' l_0 fun a20 =>
                StC h_20 ((a20.add 4).add 0) (.int .i64 (IntKind.wrap .i64 (x20 + 1))) fun h_22 =>
                NN' l_0 fun a21 =>
                Ld h_22 (a21.add 4) fun v15 => DI .i64 v15 fun x21 =>
                Q (.tuple #[.int .i64 (IntKind.wrap .i64 (x21 - 1)), .int .i64 0]) h_22)))
        else
          CallsH Try.prog 90 [.slice b0a b0l b0c] h_0 fun r21 h_23 =>
          ∃ (x22a : Option Addr), ∃ (x22l : Nat), ∃ (x22c : Nat), ∃ (x23 : Int), r21 = .tuple #[.slice x22a x22l x22c, .int .i64 x23] ∧
          (bif (x23 : Int) != 0 then
            Q (.tuple #[.int .i64 0, .int .i64 x23]) h_23
          else
            CallsH Try.prog 101 [.pointer l_0] h_23 fun r22 h_24 =>
            DP r22 fun p3 =>
            NN' l_0 fun a22 =>
            Ld h_24 (a22.add 0) fun v16 => DP v16 fun x24 =>
            NN' l_0 fun a23 =>
            Ld h_24 (a23.add 1) fun v17 => DS v17 fun x25 =>
            NN' p3 fun a24 =>
            Ld h_24 (a24.add 0) fun v18 => DI .i64 v18 fun x26 =>
            ∃ r24, (CallsH Try.prog 103 [.int .i64 x26] h_24 fun r23 h_25 =>
            r23 = r24 ∧ h_25 = h_24) ∧
            DS r24 fun x27 =>
            ∃ r26, (CallsH Try.prog 18 [.pointer x24, .string x25, .string x27, .slice x22a x22l x22c] h_24 fun r25 h_26 =>
            r25 = r26 ∧ h_26 = h_24) ∧
            DI .i64 r26 fun e4 =>
            (bif (e4 : Int) != 0 then
              Q (.tuple #[.int .i64 0, .int .i64 e4]) h_24
            else
              NN' p3 fun a25 =>
              Ld h_24 (a25.add 1) fun v19 => DI .i64 v19 fun x28 =>
              NN' p3 fun a26 =>
              StC h_24 ((a26.add 1).add 0) (.int .i64 (IntKind.wrap .i64 (x28 + 1))) fun h_28 =>
              NN' p3 fun a27 =>
              Ld h_28 (a27.add 2) fun v20 => DI .i64 v20 fun x29 =>
              NN' p3 fun a28 =>
              StC h_28 ((a28.add 2).add 0) (.int .i64 (IntKind.wrap .i64 (x29 + (x22l : Int)))) fun h_30 =>
              NN' l_0 fun a29 =>
              Ld h_30 (a29.add 4) fun v21 => DI .i64 v21 fun x30 =>
              NN' l_0 fun a30 =>
              StC h_30 ((a30.add 4).add 0) (.int .i64 (IntKind.wrap .i64 (x30 + 1))) fun h_32 =>
              NN' l_0 fun a31 =>
              Ld h_32 (a31.add 4) fun v22 => DI .i64 v22 fun x31 =>
              Q (.tuple #[.int .i64 (IntKind.wrap .i64 (x31 - 1)), .int .i64 0]) h_32))))))
theorem F50_eq : (fun (l_0 : Option Addr) (b0a : Option Addr) (b0l : Nat) (b0c : Nat) (h : Heap) (Q : Value → Heap → Prop) => fnPT Try.prog Try.f50 (fun _ => annNil) (fun _ => []) (fun _ => none) [.pointer l_0, .slice b0a b0l b0c] h Q) = F50 := by kernel_rfl
theorem F50_ok {l_0 : Option Addr} {b0a : Option Addr} {b0l : Nat} {b0c : Nat} {h : Heap} {Q : Value → Heap → Prop} (H : F50 l_0 b0a b0l b0c h Q) : CallsH Try.prog 50 [.pointer l_0, .slice b0a b0l b0c] h Q :=
  callsH_of (ann := fun _ => annNil) (tys := fun _ => []) (pl := fun _ => none) Try.func50 (by kernel_rfl) (by have e := F50_eq; exact (congrFun (congrFun (congrFun (congrFun (congrFun (congrFun (e) l_0) b0a) b0l) b0c) h) Q).symm ▸ H)

/-- (*headgate/segment.Log).Read -/
def F51 (l_0 : Option Addr) (from_0 : Int) (to0 : Int) (h : Heap) (Q : Value → Heap → Prop) : Prop :=
  Al h (.cells #[.pointer l_0] 69) fun b0 h_0 =>
  Al h_0 (.cells #[.int .i64 from_0] 2) fun b1 h_1 =>
  Ld h_1 (Addr.mk b0 0 none) fun v0 => DP v0 fun x0 =>
  (bif (x0).isNone then
    Q (.tuple #[.slice none 0 0, .int .i64 1]) h_1
  else
    Ld h_1 (Addr.mk b1 0 none) fun v1 => DI .i64 v1 fun x1 =>
    (bif decide ((x1 : Int) < 0) then
      Q (.tuple #[.slice none 0 0, .int .i64 101]) h_1
    else
      Ld h_1 (Addr.mk b1 0 none) fun v2 => DI .i64 v2 fun x2 =>
      (bif decide ((to0 : Int) < x2) then
        Q (.tuple #[.slice none 0 0, .int .i64 101]) h_1
      else
        Ld h_1 (Addr.mk b0 0 none) fun v3 => DP v3 fun x3 =>
        NN' x3 fun a0 =>
        Ld h_1 (a0.add 4) fun v4 => DI .i64 v4 fun x4 =>
        (bif decide ((to0 : Int) > x4) then
          Q (.tuple #[.slice none 0 0, .int .i64 101]) h_1
        else
          Ld h_1 (Addr.mk b0 0 none) fun v5 => DP v5 fun x5 =>
          NN' x5 fun a1 =>
          Ld h_1 (a1.add 3) fun v6 => DSl v6 fun x6a x6l x6c =>
          CallsH Try.prog 104 [.int .i64 (x6l : Int), .func (.func 105) #[] #[.pointer (some (Addr.mk b0 0 none)), .pointer (some (Addr.mk b1 0 none))]] h_1 fun r2 h_2 =>
          DI .i64 r2 fun k0 =>
          Ld h_2 (Addr.mk b0 0 none) fun v7 => DP v7 fun x7 =>
          NN' x7 fun a2 =>
          Ld h_2 (a2.add 3) fun v8 => DSl v8 fun x8a x8l x8c =>
          SlV x8a x8c 3 k0 (x8l : Int) (x8c : Int) fun s0a s0l s0c =>
          LoopH (fun again0 (s1 : Sl × Int) h_3 =>
            (bif decide ((s1.2 : Int) < (s0l : Int)) then
              IdxA s0a s0l s1.2 3 fun a3 =>
              Ld h_3 (a3.add 0) fun c0 =>
              Ld h_3 (a3.add 1) fun c1 =>
              Ld h_3 (a3.add 2) fun c2 =>
              ∃ (x9 : Int), ∃ (x10 : Int), ∃ (x11 : Int), (Value.agg #[c0, c1, c2]) = .agg #[.int .i64 x9, .int .i64 x10, .int .i64 x11] ∧
              Al h_3 (.cells #[.int .i64 0, .int .i64 0, .int .i64 0] 141) fun b2 h_4 =>
              StC h_4 ((Addr.mk b2 0 none).add 0) (.int .i64 x9) fun h_6 =>
              StC h_6 ((Addr.mk b2 0 none).add 1) (.int .i64 x10) fun h_7 =>
              StC h_7 ((Addr.mk b2 0 none).add 2) (.int .i64 x11) fun h_8 =>
              Ld h_8 ((Addr.mk b2 0 none).add 0) fun v9 => DI .i64 v9 fun x12 =>
              (bif decide ((x12 : Int) ≥ to0) then
                Q (.tuple #[.slice s1.1.a s1.1.l s1.1.c, .int .i64 0]) h_8
              else
                Ld h_8 (Addr.mk b1 0 none) fun v10 => DI .i64 v10 fun x13 =>
                (bif (x13 : Int) == to0 then
                  Q (.tuple #[.slice s1.1.a s1.1.l s1.1.c, .int .i64 0]) h_8
                else
                  Ld h_8 ((Addr.mk b2 0 none).add 1) fun v11 => DI .i64 v11 fun x14 =>
                  (bif (x14 : Int) == 0 then
                    again0 (⟨s1.1.a, s1.1.l, s1.1.c⟩, IntKind.wrap .i64 (s1.2 + 1)) h_8
                  else
                    Ld h_8 (Addr.mk b0 0 none) fun v12 => DP v12 fun x15 =>
                    NN' x15 fun a4 =>
                    Ld h_8 (a4.add 0) fun v13 => DP v13 fun x16 =>
                    Ld h_8 (Addr.mk b0 0 none) fun v14 => DP v14 fun x17 =>
                    NN' x17 fun a5 =>
                    Ld h_8 (a5.add 1) fun v15 => DS v15 fun x18 =>
                    Ld h_8 ((Addr.mk b2 0 none).add 0) fun v16 => DI .i64 v16 fun x19 =>
                    ∃ r6, (CallsH Try.prog 103 [.int .i64 x19] h_8 fun r5 h_9 =>
                    r5 = r6 ∧ h_9 = h_8) ∧
                    DS r6 fun x20 =>
                    ∃ r8, (CallsH Try.prog 25 [.pointer x16, .string x18, .string x20] h_8 fun r7 h_10 =>
                    r7 = r8 ∧ h_10 = h_8) ∧
                    ∃ (x21a : Option Addr), ∃ (x21l : Nat), ∃ (x21c : Nat), ∃ (x22 : Int), r8 = .tuple #[.slice x21a x21l x21c, .int .i64 x22] ∧
                    (bif (x22 : Int) != 0 then
                      Q (.tuple #[.slice none 0 0, .int .i64 x22]) h_8
                    else
                      CallsH Try.prog 106 [.slice x21a x21l x21c] h_8 fun r9 h_11 =>
                      ∃ (x23a : Option Addr), ∃ (x23l : Nat), ∃ (x23c : Nat), ∃ (x24 : Int), r9 = .tuple #[.slice x23a x23l x23c, .int .i64 x24] ∧
                      Ld h_11 ((Addr.mk b2 0 none).add 1) fun v17 => DI .i64 v17 fun x25 =>
                      (bif decide (((x23l : Int) : Int) < x25) then
                        Q (.tuple #[.slice none 0 0, .int .i64 70]) h_11
                      else
                        Ld h_11 (Addr.mk b1 0 none) fun v18 => DI .i64 v18 fun x26 =>
                        Ld h_11 ((Addr.mk b2 0 none).add 0) fun v19 => DI .i64 v19 fun x27 =>
                        Ld h_11 ((Addr.mk b2 0 none).add 0) fun v20 => DI .i64 v20 fun x28 =>
                        Ld h_11 ((Addr.mk b2 0 none).add 1) fun v21 => DI .i64 v21 fun x29 =>
                        SlV x23a x23c 1 (if (0 : Int) > (IntKind.wrap .i64 (x26 - x27)) then 0 else (IntKind.wrap .i64 (x26 - x27))) (if (x29 : Int) < (IntKind.wrap .i64 (to0 - x28)) then x29 else (IntKind.wrap .i64 (to0 - x28))) (if (x29 : Int) < (IntKind.wrap .i64 (to0 - x28)) then x29 else (IntKind.wrap .i64 (to0 - x28))) fun s2a s2l s2c =>
                        RunH Try.prog (Builtin.append_ #[74, 74] 74 #[.slice s1.1.a s1.1.l s1.1.c, .slice s2a s2l s2c]) h_11 fun r10 h_12 =>
                        DSl r10 fun out0a out0l out0c =>
                        again0 (⟨out0a, out0l, out0c⟩, IntKind.wrap .i64 (s1.2 + 1)) h_12)))))
            else
              Q (.tuple #[.slice s1.1.a s1.1.l s1.1.c, .int .i64 0]) h_3)) (⟨none, 0, 0⟩, 0) h_2))))
theorem F51_eq : (fun (l_0 : Option Addr) (from_0 : Int) (to0 : Int) (h : Heap) (Q : Value → Heap → Prop) => fnPT Try.prog Try.f51 (fun i => bif Nat.beq i 0 then annCons 8 (codSl) (annOne 49 (codI .i64)) else annNil) (fun _ => []) (fun _ => none) [.pointer l_0, .int .i64 from_0, .int .i64 to0] h Q) = F51 := by kernel_rfl
theorem F51_ok {l_0 : Option Addr} {from_0 : Int} {to0 : Int} {h : Heap} {Q : Value → Heap → Prop} (H : F51 l_0 from_0 to0 h Q) : CallsH Try.prog 51 [.pointer l_0, .int .i64 from_0, .int .i64 to0] h Q :=
  callsH_of (ann := fun i => bif Nat.beq i 0 then annCons 8 (codSl) (annOne 49 (codI .i64)) else annNil) (tys := fun _ => []) (pl := fun _ => none) Try.func51 (by kernel_rfl) (by have e := F51_eq; exact (congrFun (congrFun (congrFun (congrFun (congrFun (e) l_0) from_0) to0) h) Q).symm ▸ H)

/-- (*headgate/segment.Log).Sync -/
def F52 (l_0 : Option Addr) (h : Heap) (Q : Value → Heap → Prop) : Prop :=
  (bif (l_0).isNone then
    Q (.int .i64 1) h
  else
    CallsH Try.prog 101 [.pointer l_0] h fun r0 h_0 =>
    DP r0 fun p0 =>
    (bif !((p0).isNone) then
      NN' l_0 fun a0 =>
      Ld h_0 (a0.add 0) fun v0 => DP v0 fun x0 =>
      NN' l_0 fun a1 =>
      Ld h_0 (a1.add 1) fun v1 => DS v1 fun x1 =>
      NN' p0 fun a2 =>
      Ld h_0 (a2.add 0) fun v2 => DI .i64 v2 fun x2 =>
      ∃ r2, (CallsH Try.prog 103 [.int .i64 x2] h_0 fun r1 h_1 =>
      r1 = r2 ∧ h_1 = h_0) ∧
      DS r2 fun x3 =>
      ∃ r4, (CallsH Try.prog 19 [.pointer x0, .string x1, .string x3] h_0 fun r3 h_2 =>
      r3 = r4 ∧ h_2 = h_0) ∧
      DI .i64 r4 fun e0 =>
      (bif (e0 : Int) != 0 then
        Q (.int .i64 e0) h_0
      else
        NN' l_0 fun a3 =>
        Ld h_0 (a3.add 4) fun v3 => DI .i64 v3 fun x4 =>
        NN' l_0 fun a4 =>
        StC h_0 ((a4.add 5).add 0) (.int .i64 x4) fun h_4 =>
        Q (.int .i64 0) h_4)
    else
      NN' l_0 fun a5 =>
      Ld h_0 (a5.add 4) fun v4 => DI .i64 v4 fun x5 =>
      NN' l_0 fun a6 =>
      StC h_0 ((a6.add 5).add 0) (.int .i64 x5) fun h_6 =>
      Q (.int .i64 0) h_6))
theorem F52_eq : (fun (l_0 : Option Addr) (h : Heap) (Q : Value → Heap → Prop) => fnPT Try.prog Try.f52 (fun _ => annNil) (fun _ => []) (fun _ => none) [.pointer l_0] h Q) = F52 := by kernel_rfl
theorem F52_ok {l_0 : Option Addr} {h : Heap} {Q : Value → Heap → Prop} (H : F52 l_0 h Q) : CallsH Try.prog 52 [.pointer l_0] h Q :=
  callsH_of (ann := fun _ => annNil) (tys := fun _ => []) (pl := fun _ => none) Try.func52 (by kernel_rfl) (by have e := F52_eq; exact (congrFun (congrFun (congrFun (e) l_0) h) Q).symm ▸ H)

/-- (*headgate/segment.Log).End -/
def F53 (l_0 : Option Addr) (h : Heap) (Q : Value → Heap → Prop) : Prop :=
  (bif (l_0).isNone then
    Q (.int .i64 0) h
  else
    NN' l_0 fun a0 =>
    Ld h (a0.add 4) fun v0 => DI .i64 v0 fun x0 =>
    Q (.int .i64 x0) h)
theorem F53_eq : (fun (l_0 : Option Addr) (h : Heap) (Q : Value → Heap → Prop) => fnPT Try.prog Try.f53 (fun _ => annNil) (fun _ => []) (fun _ => none) [.pointer l_0] h Q) = F53 := by kernel_rfl
theorem F53_ok {l_0 : Option Addr} {h : Heap} {Q : Value → Heap → Prop} (H : F53 l_0 h Q) : CallsH Try.prog 53 [.pointer l_0] h Q :=
  callsH_of (ann := fun _ => annNil) (tys := fun _ => []) (pl := fun _ => none) Try.func53 (by kernel_rfl) (by have e := F53_eq; exact (congrFun (congrFun (congrFun (e) l_0) h) Q).symm ▸ H)

/-- (*headgate/segment.Log).Durable -/
def F54 (l_0 : Option Addr) (h : Heap) (Q : Value → Heap → Prop) : Prop :=
  (bif (l_0).isNone then
    Q (.int .i64 0) h
  else
    NN' l_0 fun a0 =>
    Ld h (a0.add 5) fun v0 => DI .i64 v0 fun x0 =>
    Q (.int .i64 x0) h)
theorem F54_eq : (fun (l_0 : Option Addr) (h : Heap) (Q : Value → Heap → Prop) => fnPT Try.prog Try.f54 (fun _ => annNil) (fun _ => []) (fun _ => none) [.pointer l_0] h Q) = F54 := by kernel_rfl
theorem F54_ok {l_0 : Option Addr} {h : Heap} {Q : Value → Heap → Prop} (H : F54 l_0 h Q) : CallsH Try.prog 54 [.pointer l_0] h Q :=
  callsH_of (ann := fun _ => annNil) (tys := fun _ => []) (pl := fun _ => none) Try.func54 (by kernel_rfl) (by have e := F54_eq; exact (congrFun (congrFun (congrFun (e) l_0) h) Q).symm ▸ H)

/-- (*headgate/segment.Log).Segments -/
def F55 (l_0 : Option Addr) (h : Heap) (Q : Value → Heap → Prop) : Prop :=
  (bif (l_0).isNone then
    Q (.int .i64 0) h
  else
    NN' l_0 fun a0 =>
    Ld h (a0.add 3) fun v0 => DSl v0 fun x0a x0l x0c =>
    Q (.int .i64 (x0l : Int)) h)
theorem F55_eq : (fun (l_0 : Option Addr) (h : Heap) (Q : Value → Heap → Prop) => fnPT Try.prog Try.f55 (fun _ => annNil) (fun _ => []) (fun _ => none) [.pointer l_0] h Q) = F55 := by kernel_rfl
theorem F55_ok {l_0 : Option Addr} {h : Heap} {Q : Value → Heap → Prop} (H : F55 l_0 h Q) : CallsH Try.prog 55 [.pointer l_0] h Q :=
  callsH_of (ann := fun _ => annNil) (tys := fun _ => []) (pl := fun _ => none) Try.func55 (by kernel_rfl) (by have e := F55_eq; exact (congrFun (congrFun (congrFun (e) l_0) h) Q).symm ▸ H)

/-- (*headgate/simfs.FS).ready -/
def F56 (f0 : Option Addr) (dir0 : ByteArray) (of_0a : Option Addr) (of_0l : Nat) (of_0c : Nat) (h : Heap) (Q : Value → Heap → Prop) : Prop :=
  (bif (f0).isNone then
    Q (.tuple #[.pointer none, .int .i64 1]) h
  else
    NN' f0 fun a0 =>
    Ld h (a0.add 4) fun v0 => DB v0 fun x0 =>
    (bif x0 then
      Q (.tuple #[.pointer none, .int .i64 60]) h
    else
      CallsH Try.prog 107 [.pointer f0, .string dir0, .slice of_0a of_0l of_0c] h fun r0 h_0 =>
      ∃ (x1 : Option Addr), ∃ (x2 : Int), r0 = .tuple #[.pointer x1, .int .i64 x2] ∧
      Q (.tuple #[.pointer x1, .int .i64 x2]) h_0))
theorem F56_eq : (fun (f0 : Option Addr) (dir0 : ByteArray) (of_0a : Option Addr) (of_0l : Nat) (of_0c : Nat) (h : Heap) (Q : Value → Heap → Prop) => fnPT Try.prog Try.f56 (fun _ => annNil) (fun _ => []) (fun _ => none) [.pointer f0, .string dir0, .slice of_0a of_0l of_0c] h Q) = F56 := by kernel_rfl
theorem F56_ok {f0 : Option Addr} {dir0 : ByteArray} {of_0a : Option Addr} {of_0l : Nat} {of_0c : Nat} {h : Heap} {Q : Value → Heap → Prop} (H : F56 f0 dir0 of_0a of_0l of_0c h Q) : CallsH Try.prog 56 [.pointer f0, .string dir0, .slice of_0a of_0l of_0c] h Q :=
  callsH_of (ann := fun _ => annNil) (tys := fun _ => []) (pl := fun _ => none) Try.func56 (by kernel_rfl) (by have e := F56_eq; exact (congrFun (congrFun (congrFun (congrFun (congrFun (congrFun (congrFun (e) f0) dir0) of_0a) of_0l) of_0c) h) Q).symm ▸ H)

/-- (*headgate/simfs.FS).step -/
def F57 (f0 : Option Addr) (h : Heap) (Q : Value → Heap → Prop) : Prop :=
  NN' f0 fun a0 =>
  Ld h (a0.add 3) fun v0 => DI .i64 v0 fun x0 =>
  (bif (x0 : Int) == 0 then
    NN' f0 fun a1 =>
    StC h ((a1.add 4).add 0) (.bool true) fun h_1 =>
    Q (.int .i64 60) h_1
  else
    NN' f0 fun a2 =>
    Ld h (a2.add 3) fun v1 => DI .i64 v1 fun x1 =>
    NN' f0 fun a3 =>
    StC h ((a3.add 3).add 0) (.int .i64 (if ((-1) : Int) > (IntKind.wrap .i64 (x1 - 1)) then (-1) else (IntKind.wrap .i64 (x1 - 1)))) fun h_3 =>
    NN' f0 fun a4 =>
    Ld h_3 (a4.add 2) fun v2 => DI .i64 v2 fun x2 =>
    NN' f0 fun a5 =>
    StC h_3 ((a5.add 2).add 0) (.int .i64 (IntKind.wrap .i64 (x2 + 1))) fun h_5 =>
    Q (.int .i64 0) h_5)
theorem F57_eq : (fun (f0 : Option Addr) (h : Heap) (Q : Value → Heap → Prop) => fnPT Try.prog Try.f57 (fun _ => annNil) (fun _ => []) (fun _ => none) [.pointer f0] h Q) = F57 := by kernel_rfl
theorem F57_ok {f0 : Option Addr} {h : Heap} {Q : Value → Heap → Prop} (H : F57 f0 h Q) : CallsH Try.prog 57 [.pointer f0] h Q :=
  callsH_of (ann := fun _ => annNil) (tys := fun _ => []) (pl := fun _ => none) Try.func57 (by kernel_rfl) (by have e := F57_eq; exact (congrFun (congrFun (congrFun (e) f0) h) Q).symm ▸ H)

/-- (*headgate/simfs.FS).change -/
def F58 (f0 : Option Addr) (d0 : Option Addr) (do_0f : Fn) (do_0p : Array Value) (do_0c : Array Value) (h : Heap) (Q : Value → Heap → Prop) : Prop :=
  CallsH Try.prog 57 [.pointer f0] h fun r0 h_0 =>
  DI .i64 r0 fun e0 =>
  (bif (e0 : Int) != 0 then
    Q (.int .i64 e0) h_0
  else
    NN' d0 fun a0 =>
    Ld h_0 (a0.add 0) fun v0 => DM v0 fun x0 =>
    CallV Try.prog (.func do_0f do_0p do_0c) [.map x0] h_0 fun r1 h_1 =>
    r1 = .tuple #[] ∧
    NN' d0 fun a1 =>
    Ld h_1 (a1.add 2) fun v1 => DSl v1 fun x1a x1l x1c =>
    Al h_1 (.cells #[.func do_0f do_0p do_0c] 96) fun b0 h_2 =>
    RunH Try.prog (Builtin.append_ #[89, 89] 89 #[.slice x1a x1l x1c, .slice (some (Addr.mk b0 0 none)) 1 1]) h_2 fun r3 h_3 =>
    DSl r3 fun x2a x2l x2c =>
    NN' d0 fun a2 =>
    StC h_3 ((a2.add 2).add 0) (.slice x2a x2l x2c) fun h_5 =>
    CallsH Try.prog 66 [.pointer f0] h_5 fun r5 h_6 =>
    r5 = .tuple #[] ∧
    Q (.int .i64 0) h_6)
theorem F58_eq : (fun (f0 : Option Addr) (d0 : Option Addr) (do_0f : Fn) (do_0p : Array Value) (do_0c : Array Value) (h : Heap) (Q : Value → Heap → Prop) => fnPT Try.prog Try.f58 (fun _ => annNil) (fun _ => []) (fun _ => none) [.pointer f0, .pointer d0, .func do_0f do_0p do_0c] h Q) = F58 := by kernel_rfl
theorem F58_ok {f0 : Option Addr} {d0 : Option Addr} {do_0f : Fn} {do_0p : Array Value} {do_0c : Array Value} {h : Heap} {Q : Value → Heap → Prop} (H : F58 f0 d0 do_0f do_0p do_0c h Q) : CallsH Try.prog 58 [.pointer f0, .pointer d0, .func do_0f do_0p do_0c] h Q :=
  callsH_of (ann := fun _ => annNil) (tys := fun _ => []) (pl := fun _ => none) Try.func58 (by kernel_rfl) (by have e := F58_eq; exact (congrFun (congrFun (congrFun (congrFun (congrFun (congrFun (congrFun (e) f0) d0) do_0f) do_0p) do_0c) h) Q).symm ▸ H)

/-- (*headgate/simfs.FS).Create$1 -/
def F59 (n0 : Option Nat) (c0 : Addr) (c1 : Addr) (h : Heap) (Q : Value → Heap → Prop) : Prop :=
  Ld h c1 fun v0 => DS v0 fun x0 =>
  Ld h c0 fun v1 => DP v1 fun x1 =>
  RunU Try.prog (Instr.mapUpdate 88 (.map n0) (.string x0) (.pointer x1)) h fun h_0 =>
  Q (.tuple #[]) h_0
theorem F59_eq : (fun (n0 : Option Nat) (c0 : Addr) (c1 : Addr) (h : Heap) (Q : Value → Heap → Prop) => fnPT Try.prog Try.f59 (fun _ => annNil) (fun _ => []) (fun _ => none) [.map n0, .pointer (some c0), .pointer (some c1)] h Q) = F59 := by kernel_rfl
theorem F59_ok {n0 : Option Nat} {c0 : Addr} {c1 : Addr} {h : Heap} {Q : Value → Heap → Prop} (H : F59 n0 c0 c1 h Q) : CallsH Try.prog 59 [.map n0, .pointer (some c0), .pointer (some c1)] h Q :=
  callsH_of (ann := fun _ => annNil) (tys := fun _ => []) (pl := fun _ => none) Try.func59 (by kernel_rfl) (by have e := F59_eq; exact (congrFun (congrFun (congrFun (congrFun (congrFun (e) n0) c0) c1) h) Q).symm ▸ H)

/-- (*headgate/simfs.FS).entry -/
def F60 (f0 : Option Addr) (dir0 : ByteArray) (name0 : ByteArray) (h : Heap) (Q : Value → Heap → Prop) : Prop :=
  Al h (.cells #[.string name0] 9) fun b0 h_0 =>
  CallsH Try.prog 56 [.pointer f0, .string dir0, .slice (some (Addr.mk b0 0 none)) 1 1] h_0 fun r1 h_1 =>
  ∃ (x0 : Option Addr), ∃ (x1 : Int), r1 = .tuple #[.pointer x0, .int .i64 x1] ∧
  (bif (x1 : Int) == 0 then
    NN' x0 fun a0 =>
    Ld h_1 (a0.add 0) fun v0 => DM v0 fun x2 =>
    ∃ es0, mapEs h_1 x2 es0 ∧ ∃ f1, Instr.findNow .string (.string name0) (es0 : Array MapEntry).toList 0 = some f1 ∧
    DP ((Option.map (fun x => x.2) f1).getD (.pointer none)) fun x3 =>
    (bif (x3).isNone then
      (bif (62 : Int) != 0 then
        Q (.tuple #[.pointer none, .pointer none, .int .i64 62]) h_1
      else
        NN' x0 fun a1 =>
        Ld h_1 (a1.add 0) fun v1 => DM v1 fun x4 =>
        ∃ es1, mapEs h_1 x4 es1 ∧ ∃ f2, Instr.findNow .string (.string name0) (es1 : Array MapEntry).toList 0 = some f2 ∧
        DP ((Option.map (fun x => x.2) f2).getD (.pointer none)) fun x5 =>
        Q (.tuple #[.pointer x0, .pointer x5, .int .i64 0]) h_1)
    else
      (bif (x1 : Int) != 0 then
        Q (.tuple #[.pointer none, .pointer none, .int .i64 x1]) h_1
      else
        NN' x0 fun a2 =>
        Ld h_1 (a2.add 0) fun v2 => DM v2 fun x6 =>
        ∃ es2, mapEs h_1 x6 es2 ∧ ∃ f3, Instr.findNow .string (.string name0) (es2 : Array MapEntry).toList 0 = some f3 ∧
        DP ((Option.map (fun x => x.2) f3).getD (.pointer none)) fun x7 =>
        Q (.tuple #[.pointer x0, .pointer x7, .int .i64 0]) h_1))
  else
    (bif (x1 : Int) != 0 then
      Q (.tuple #[.pointer none, .pointer none, .int .i64 x1]) h_1
    else
      NN' x0 fun a3 =>
      Ld h_1 (a3.add 0) fun v3 => DM v3 fun x8 =>
      ∃ es3, mapEs h_1 x8 es3 ∧ ∃ f4, Instr.findNow .string (.string name0) (es3 : Array MapEntry).toList 0 = some f4 ∧
      DP ((Option.map (fun x => x.2) f4).getD (.pointer none)) fun x9 =>
      Q (.tuple #[.pointer x0, .pointer x9, .int .i64 0]) h_1))
theorem F60_eq : (fun (f0 : Option Addr) (dir0 : ByteArray) (name0 : ByteArray) (h : Heap) (Q : Value → Heap → Prop) => fnPT Try.prog Try.f60 (fun _ => annNil) (fun _ => []) (fun _ => none) [.pointer f0, .string dir0, .string name0] h Q) = F60 := by kernel_rfl
theorem F60_ok {f0 : Option Addr} {dir0 : ByteArray} {name0 : ByteArray} {h : Heap} {Q : Value → Heap → Prop} (H : F60 f0 dir0 name0 h Q) : CallsH Try.prog 60 [.pointer f0, .string dir0, .string name0] h Q :=
  callsH_of (ann := fun _ => annNil) (tys := fun _ => []) (pl := fun _ => none) Try.func60 (by kernel_rfl) (by have e := F60_eq; exact (congrFun (congrFun (congrFun (congrFun (congrFun (e) f0) dir0) name0) h) Q).symm ▸ H)

/-- (*headgate/simfs.FS).Rename$1 -/
def F62 (n0 : Option Nat) (c0 : Addr) (c1 : Addr) (h : Heap) (Q : Value → Heap → Prop) : Prop :=
  Ld h c0 fun v0 => DS v0 fun x0 =>
  ∃ es0, mapEs h n0 es0 ∧ ∃ f0, Instr.findNow .string (.string x0) (es0 : Array MapEntry).toList 0 = some f0 ∧
  DP ((Option.map (fun x => x.2) f0).getD (.pointer none)) fun x1 =>
  Ld h c0 fun v1 => DS v1 fun x2 =>
  RunH Try.prog (Builtin.delete_ #[88, 9] 0 #[.map n0, .string x2]) h fun r0 h_0 =>
  Ld h_0 c1 fun v2 => DS v2 fun x3 =>
  RunU Try.prog (Instr.mapUpdate 88 (.map n0) (.string x3) (.pointer x1)) h_0 fun h_1 =>
  Q (.tuple #[]) h_1
theorem F62_eq : (fun (n0 : Option Nat) (c0 : Addr) (c1 : Addr) (h : Heap) (Q : Value → Heap → Prop) => fnPT Try.prog Try.f62 (fun _ => annNil) (fun _ => []) (fun _ => none) [.map n0, .pointer (some c0), .pointer (some c1)] h Q) = F62 := by kernel_rfl
theorem F62_ok {n0 : Option Nat} {c0 : Addr} {c1 : Addr} {h : Heap} {Q : Value → Heap → Prop} (H : F62 n0 c0 c1 h Q) : CallsH Try.prog 62 [.map n0, .pointer (some c0), .pointer (some c1)] h Q :=
  callsH_of (ann := fun _ => annNil) (tys := fun _ => []) (pl := fun _ => none) Try.func62 (by kernel_rfl) (by have e := F62_eq; exact (congrFun (congrFun (congrFun (congrFun (congrFun (e) n0) c0) c1) h) Q).symm ▸ H)

/-- (*headgate/simfs.FS).Crash$1 -/
def F63 (n0 : Int) (c0 : Addr) (h : Heap) (Q : Value → Heap → Prop) : Prop :=
  Ld h c0 fun v0 => DSl v0 fun x0a x0l x0c =>
  (bif ((x0l : Int) : Int) == 0 then
    Q (.int .i64 0) h
  else
    Ld h c0 fun v1 => DSl v1 fun x1a x1l x1c =>
    IdxA x1a x1l 0 1 fun a0 =>
    Ld h a0 fun v2 => DI .i64 v2 fun p0 =>
    Ld h c0 fun v3 => DSl v3 fun x2a x2l x2c =>
    SlV x2a x2c 1 1 (x2l : Int) (x2c : Int) fun s0a s0l s0c =>
    StC h (c0.add 0) (.slice s0a s0l s0c) fun h_1 =>
    ((IntKind.wrap .u64 (IntKind.wrap .i64 (n0 + 1))) : Int) ≠ 0 ∧
    Q (.int .i64 (IntKind.wrap .i64 (Int.tmod (IntKind.wrap .u64 p0) (IntKind.wrap .u64 (IntKind.wrap .i64 (n0 + 1)))))) h_1)
theorem F63_eq : (fun (n0 : Int) (c0 : Addr) (h : Heap) (Q : Value → Heap → Prop) => fnPT Try.prog Try.f63 (fun _ => annNil) (fun _ => []) (fun _ => none) [.int .i64 n0, .pointer (some c0)] h Q) = F63 := by kernel_rfl
theorem F63_ok {n0 : Int} {c0 : Addr} {h : Heap} {Q : Value → Heap → Prop} (H : F63 n0 c0 h Q) : CallsH Try.prog 63 [.int .i64 n0, .pointer (some c0)] h Q :=
  callsH_of (ann := fun _ => annNil) (tys := fun _ => []) (pl := fun _ => none) Try.func63 (by kernel_rfl) (by have e := F63_eq; exact (congrFun (congrFun (congrFun (congrFun (e) n0) c0) h) Q).symm ▸ H)

/-- slices.Sorted[string] -/
def F64 (seq0 : Value) (h : Heap) (Q : Value → Heap → Prop) : Prop :=
  CallsH Try.prog 109 [seq0] h fun r0 h_0 =>
  DSl r0 fun s0a s0l s0c =>
  CallsH Try.prog 110 [.slice s0a s0l s0c] h_0 fun r1 h_1 =>
  r1 = .tuple #[] ∧
  Q (.slice s0a s0l s0c) h_1
theorem F64_eq : (fun (seq0 : Value) (h : Heap) (Q : Value → Heap → Prop) => fnPT Try.prog Try.f64 (fun _ => annNil) (fun _ => []) (fun _ => none) [seq0] h Q) = F64 := by kernel_rfl
theorem F64_ok {seq0 : Value} {h : Heap} {Q : Value → Heap → Prop} (H : F64 seq0 h Q) : CallsH Try.prog 64 [seq0] h Q :=
  callsH_of (ann := fun _ => annNil) (tys := fun _ => []) (pl := fun _ => none) Try.func64 (by kernel_rfl) (by have e := F64_eq; exact (congrFun (congrFun (congrFun (e) seq0) h) Q).symm ▸ H)

/-- maps.Keys[headgate/simfs.names,string,*headgate/simfs.file] -/
def F65 (m0 : Option Nat) (h : Heap) (Q : Value → Heap → Prop) : Prop :=
  Al h (.cells #[.map m0] 88) fun b0 h_0 =>
  Q (.func (.func 111) #[] #[.pointer (some (Addr.mk b0 0 none))]) h_0
theorem F65_eq : (fun (m0 : Option Nat) (h : Heap) (Q : Value → Heap → Prop) => fnPT Try.prog Try.f65 (fun _ => annNil) (fun _ => []) (fun _ => none) [.map m0] h Q) = F65 := by kernel_rfl
theorem F65_ok {m0 : Option Nat} {h : Heap} {Q : Value → Heap → Prop} (H : F65 m0 h Q) : CallsH Try.prog 65 [.map m0] h Q :=
  callsH_of (ann := fun _ => annNil) (tys := fun _ => []) (pl := fun _ => none) Try.func65 (by kernel_rfl) (by have e := F65_eq; exact (congrFun (congrFun (congrFun (e) m0) h) Q).symm ▸ H)

/-- (*headgate/simfs.FS).count -/
def F66 (f0 : Option Addr) (h : Heap) (Q : Value → Heap → Prop) : Prop :=
  NN' f0 fun a0 =>
  StC h ((a0.add 1).add 0) (.int .i64 0) fun h_1 =>
  NN' f0 fun a1 =>
  Ld h_1 (a1.add 5) fun v0 => DM v0 fun x0 =>
  RunH Try.prog (Instr.range 81 (.map x0)) h_1 fun r1 h_2 =>
  DP r1 fun p0 =>
  LoopH (fun again0 (s0 : Unit) h_3 =>
    RunH Try.prog (Instr.next (.pointer p0) false 0) h_3 fun r2 h_4 =>
    (
      r2 = .tuple #[.bool false] ∧
      Q (.tuple #[]) h_4) ∨ (
      ∃ (k0 x1 : Value), r2 = .tuple #[.bool true, k0, x1] ∧
      RunH Try.prog (Instr.entry (.pointer p0)) h_4 fun r3 h_5 =>
      ∃ (x2 : Value), ∃ (x3 : Option Addr), r3 = .tuple #[x2, .pointer x3] ∧
      NN' x3 fun a2 =>
      Ld h_5 (a2.add 0) fun v1 => DM v1 fun x4 =>
      RunH Try.prog (Instr.range 88 (.map x4)) h_5 fun r4 h_6 =>
      DP r4 fun p1 =>
      LoopH (fun again1 (s1 : Unit) h_7 =>
        RunH Try.prog (Instr.next (.pointer p1) false 0) h_7 fun r5 h_8 =>
        (
          r5 = .tuple #[.bool false] ∧
          again0 () h_8) ∨ (
          ∃ (k1 x5 : Value), r5 = .tuple #[.bool true, k1, x5] ∧
          RunH Try.prog (Instr.entry (.pointer p1)) h_8 fun r6 h_9 =>
          ∃ (x6 : Value), ∃ (x7 : Option Addr), r6 = .tuple #[x6, .pointer x7] ∧
          NN' f0 fun a3 =>
          Ld h_9 (a3.add 1) fun v2 => DI .i64 v2 fun x8 =>
          NN' x7 fun a4 =>
          Ld h_9 (a4.add 0) fun v3 => DSl v3 fun x9a x9l x9c =>
          NN' f0 fun a5 =>
          StC h_9 ((a5.add 1).add 0) (.int .i64 (IntKind.wrap .i64 (x8 + (x9l : Int)))) fun h_11 =>
          again1 () h_11)) () h_6)) () h_2
theorem F66_eq : (fun (f0 : Option Addr) (h : Heap) (Q : Value → Heap → Prop) => fnPT Try.prog Try.f66 (fun i => bif Nat.beq i 0 then annNil else bif Nat.beq i 2 then annNil else annNil) (fun i => bif Nat.beq i 1003 then [0, 84] else bif Nat.beq i 1006 then [0, 92] else []) (fun i => bif Nat.beq i 7 then some ⟨[0, 1, 3, 7, 0, 16, 48, 112, 240, 511, 1023, 2047, 4095], 4096⟩ else none) [.pointer f0] h Q) = F66 := by kernel_rfl
theorem F66_ok {f0 : Option Addr} {h : Heap} {Q : Value → Heap → Prop} (H : F66 f0 h Q) : CallsH Try.prog 66 [.pointer f0] h Q :=
  callsH_of (ann := fun i => bif Nat.beq i 0 then annNil else bif Nat.beq i 2 then annNil else annNil) (tys := fun i => bif Nat.beq i 1003 then [0, 84] else bif Nat.beq i 1006 then [0, 92] else []) (pl := fun i => bif Nat.beq i 7 then some ⟨[0, 1, 3, 7, 0, 16, 48, 112, 240, 511, 1023, 2047, 4095], 4096⟩ else none) Try.func66 (by kernel_rfl) (by have e := F66_eq; exact (congrFun (congrFun (congrFun (e) f0) h) Q).symm ▸ H)

/-- slices.Clone[[]byte,byte] -/
def F67 (s0a : Option Addr) (s0l : Nat) (s0c : Nat) (h : Heap) (Q : Value → Heap → Prop) : Prop :=
  (bif (s0a).isNone then
    Q (.slice none 0 0) h
  else
    Al h (.cells #[] 5) fun b0 h_0 =>
    RunH Try.prog (Builtin.append_ #[31, 31] 31 #[.slice (some (Addr.mk b0 0 none)) 0 0, .slice s0a s0l s0c]) h_0 fun r1 h_1 =>
    DSl r1 fun x0a x0l x0c =>
    Q (.slice x0a x0l x0c) h_1)
theorem F67_eq : (fun (s0a : Option Addr) (s0l : Nat) (s0c : Nat) (h : Heap) (Q : Value → Heap → Prop) => fnPT Try.prog Try.f67 (fun _ => annNil) (fun _ => []) (fun _ => none) [.slice s0a s0l s0c] h Q) = F67 := by kernel_rfl
theorem F67_ok {s0a : Option Addr} {s0l : Nat} {s0c : Nat} {h : Heap} {Q : Value → Heap → Prop} (H : F67 s0a s0l s0c h Q) : CallsH Try.prog 67 [.slice s0a s0l s0c] h Q :=
  callsH_of (ann := fun _ => annNil) (tys := fun _ => []) (pl := fun _ => none) Try.func67 (by kernel_rfl) (by have e := F67_eq; exact (congrFun (congrFun (congrFun (congrFun (congrFun (e) s0a) s0l) s0c) h) Q).symm ▸ H)

/-- (*headgate/simfs.FS).Remove$1 -/
def F68 (n0 : Option Nat) (c0 : Addr) (h : Heap) (Q : Value → Heap → Prop) : Prop :=
  Ld h c0 fun v0 => DS v0 fun x0 =>
  RunH Try.prog (Builtin.delete_ #[88, 9] 0 #[.map n0, .string x0]) h fun r0 h_0 =>
  Q (.tuple #[]) h_0
theorem F68_eq : (fun (n0 : Option Nat) (c0 : Addr) (h : Heap) (Q : Value → Heap → Prop) => fnPT Try.prog Try.f68 (fun _ => annNil) (fun _ => []) (fun _ => none) [.map n0, .pointer (some c0)] h Q) = F68 := by kernel_rfl
theorem F68_ok {n0 : Option Nat} {c0 : Addr} {h : Heap} {Q : Value → Heap → Prop} (H : F68 n0 c0 h Q) : CallsH Try.prog 68 [.map n0, .pointer (some c0)] h Q :=
  callsH_of (ann := fun _ => annNil) (tys := fun _ => []) (pl := fun _ => none) Try.func68 (by kernel_rfl) (by have e := F68_eq; exact (congrFun (congrFun (congrFun (congrFun (e) n0) c0) h) Q).symm ▸ H)

/-- (*headgate/simfs.FS).Room -/
def F69 (f0 : Option Addr) (n0 : Int) (h : Heap) (Q : Value → Heap → Prop) : Prop :=
  (bif (f0).isNone then
    Q (.int .i64 1) h
  else
    (bif decide ((n0 : Int) < 0) then
      Q (.int .i64 2) h
    else
      (bif decide ((n0 : Int) > 1073741824) then
        Q (.int .i64 2) h
      else
        NN' f0 fun a0 =>
        StC h ((a0.add 0).add 0) (.int .i64 n0) fun h_1 =>
        Q (.int .i64 0) h_1)))
theorem F69_eq : (fun (f0 : Option Addr) (n0 : Int) (h : Heap) (Q : Value → Heap → Prop) => fnPT Try.prog Try.f69 (fun _ => annNil) (fun _ => []) (fun _ => none) [.pointer f0, .int .i64 n0] h Q) = F69 := by kernel_rfl
theorem F69_ok {f0 : Option Addr} {n0 : Int} {h : Heap} {Q : Value → Heap → Prop} (H : F69 f0 n0 h Q) : CallsH Try.prog 69 [.pointer f0, .int .i64 n0] h Q :=
  callsH_of (ann := fun _ => annNil) (tys := fun _ => []) (pl := fun _ => none) Try.func69 (by kernel_rfl) (by have e := F69_eq; exact (congrFun (congrFun (congrFun (congrFun (e) f0) n0) h) Q).symm ▸ H)

/-- (*headgate/simfs.FS).Spoil -/
def F70 (f0 : Option Addr) (dir0 : ByteArray) (name0 : ByteArray) (at_0 : Int) (turn0 : Int) (h : Heap) (Q : Value → Heap → Prop) : Prop :=
  (bif (f0).isNone then
    Q (.int .i64 1) h
  else
    Al h (.cells #[.string name0] 9) fun b0 h_0 =>
    CallsH Try.prog 107 [.pointer f0, .string dir0, .slice (some (Addr.mk b0 0 none)) 1 1] h_0 fun r1 h_1 =>
    ∃ (x0 : Option Addr), ∃ (x1 : Int), r1 = .tuple #[.pointer x0, .int .i64 x1] ∧
    (bif (x1 : Int) != 0 then
      Q (.int .i64 x1) h_1
    else
      NN' x0 fun a0 =>
      Ld h_1 (a0.add 0) fun v0 => DM v0 fun x2 =>
      ∃ es0, mapEs h_1 x2 es0 ∧ ∃ f1, Instr.findNow .string (.string name0) (es0 : Array MapEntry).toList 0 = some f1 ∧
      DP ((Option.map (fun x => x.2) f1).getD (.pointer none)) fun x3 =>
      (bif (x3).isNone then
        Q (.int .i64 62) h_1
      else
        (bif decide ((at_0 : Int) < 0) then
          Q (.int .i64 2) h_1
        else
          NN' x0 fun a1 =>
          Ld h_1 (a1.add 0) fun v1 => DM v1 fun x4 =>
          ∃ es1, mapEs h_1 x4 es1 ∧ ∃ f2, Instr.findNow .string (.string name0) (es1 : Array MapEntry).toList 0 = some f2 ∧
          DP ((Option.map (fun x => x.2) f2).getD (.pointer none)) fun x5 =>
          NN' x5 fun a2 =>
          Ld h_1 (a2.add 0) fun v2 => DSl v2 fun x6a x6l x6c =>
          (bif decide ((at_0 : Int) ≥ (x6l : Int)) then
            Q (.int .i64 2) h_1
          else
            NN' x0 fun a3 =>
            Ld h_1 (a3.add 0) fun v3 => DM v3 fun x7 =>
            ∃ es2, mapEs h_1 x7 es2 ∧ ∃ f3, Instr.findNow .string (.string name0) (es2 : Array MapEntry).toList 0 = some f3 ∧
            DP ((Option.map (fun x => x.2) f3).getD (.pointer none)) fun x8 =>
            NN' x8 fun a4 =>
            Ld h_1 (a4.add 0) fun v4 => DSl v4 fun x9a x9l x9c =>
            IdxA x9a x9l at_0 1 fun a5 =>
            Ld h_1 a5 fun v5 => DI .u8 v5 fun x10 =>
            IdxA x9a x9l at_0 1 fun a6 =>
            StC h_1 (a6.add 0) (.int .u8 (bitsI .xor .u8 x10 turn0)) fun h_3 =>
            Q (.int .i64 0) h_3)))))
theorem F70_eq : (fun (f0 : Option Addr) (dir0 : ByteArray) (name0 : ByteArray) (at_0 : Int) (turn0 : Int) (h : Heap) (Q : Value → Heap → Prop) => fnPT Try.prog Try.f70 (fun _ => annNil) (fun _ => []) (fun _ => none) [.pointer f0, .string dir0, .string name0, .int .i64 at_0, .int .u8 turn0] h Q) = F70 := by kernel_rfl
theorem F70_ok {f0 : Option Addr} {dir0 : ByteArray} {name0 : ByteArray} {at_0 : Int} {turn0 : Int} {h : Heap} {Q : Value → Heap → Prop} (H : F70 f0 dir0 name0 at_0 turn0 h Q) : CallsH Try.prog 70 [.pointer f0, .string dir0, .string name0, .int .i64 at_0, .int .u8 turn0] h Q :=
  callsH_of (ann := fun _ => annNil) (tys := fun _ => []) (pl := fun _ => none) Try.func70 (by kernel_rfl) (by have e := F70_eq; exact (congrFun (congrFun (congrFun (congrFun (congrFun (congrFun (congrFun (e) f0) dir0) name0) at_0) turn0) h) Q).symm ▸ H)

/-- (*headgate/simfs.FS).Plant -/
def F71 (f0 : Option Addr) (dir0 : ByteArray) (name0 : ByteArray) (b0a : Option Addr) (b0l : Nat) (b0c : Nat) (h : Heap) (Q : Value → Heap → Prop) : Prop :=
  (bif (f0).isNone then
    Q (.int .i64 1) h
  else
    Al h (.cells #[.string name0] 9) fun b1 h_0 =>
    CallsH Try.prog 107 [.pointer f0, .string dir0, .slice (some (Addr.mk b1 0 none)) 1 1] h_0 fun r1 h_1 =>
    ∃ (x0 : Option Addr), ∃ (x1 : Int), r1 = .tuple #[.pointer x0, .int .i64 x1] ∧
    (bif (x1 : Int) != 0 then
      Q (.int .i64 x1) h_1
    else
      (bif decide (((b0l : Int) : Int) > 16777216) then
        Q (.int .i64 67) h_1
      else
        NN' x0 fun a0 =>
        Ld h_1 (a0.add 0) fun v0 => DM v0 fun x2 =>
        ∃ es0, mapEs h_1 x2 es0 ∧ ∃ f1, Instr.findNow .string (.string name0) (es0 : Array MapEntry).toList 0 = some f1 ∧
        DP ((Option.map (fun x => x.2) f1).getD (.pointer none)) fun x3 =>
        (bif (x3).isNone then
          NN' x0 fun a1 =>
          Ld h_1 (a1.add 0) fun v1 => DM v1 fun x4 =>
          ∃ es1, mapEs h_1 x4 es1 ∧
          (bif decide ((((es1 : Array MapEntry).size : Int) : Int) ≥ 4096) then
            Q (.int .i64 66) h_1
          else
            NN' x0 fun a2 =>
            Ld h_1 (a2.add 0) fun v2 => DM v2 fun x5 =>
            ∃ r3, (CallsH Try.prog 67 [.slice b0a b0l b0c] h_1 fun r2 h_2 =>
            r2 = r3 ∧ h_2 = h_1) ∧
            DSl r3 fun x6a x6l x6c =>
            Al h_1 (.cells #[.slice x6a x6l x6c, .int .i64 (b0l : Int)] 94) fun b2 h_3 =>
            (SameV (some (.pointer x0)) (.pointer x0)) ∧
            (NN' x0 fun a3 =>
            SameV (some (.pointer (some a2))) (.pointer (some a3))) ∧
            (SameV (some (.pointer (some (a2.add 0)))) (.pointer (some (a2.add 0)))) ∧
            (Ld h_3 (a2.add 0) fun v3 => DM v3 fun x7 =>
            SameV (some (.map x5)) (.map x7)) ∧
            (SameV (some (.string name0)) (.string name0)) ∧
            RunU Try.prog (Instr.mapUpdate 88 (.map x5) (.string name0) (.pointer (some (Addr.mk b2 0 none)))) h_3 fun h_4 =>
            NN' x0 fun a4 =>
            Ld h_4 (a4.add 0) fun v4 => DM v4 fun x8 =>
            CallsH Try.prog 61 [.map x8] h_4 fun r6 h_5 =>
            DM r6 fun x9 =>
            NN' x0 fun a5 =>
            StC h_5 ((a5.add 1).add 0) (.map x9) fun h_7 =>
            NN' x0 fun a6 =>
            StC h_7 ((a6.add 2).add 0) (.slice none 0 0) fun h_9 =>
            CallsH Try.prog 66 [.pointer f0] h_9 fun r9 h_10 =>
            r9 = .tuple #[] ∧
            Q (.int .i64 0) h_10)
        else
          NN' x0 fun a7 =>
          Ld h_1 (a7.add 0) fun v5 => DM v5 fun x10 =>
          ∃ r11, (CallsH Try.prog 67 [.slice b0a b0l b0c] h_1 fun r10 h_11 =>
          r10 = r11 ∧ h_11 = h_1) ∧
          DSl r11 fun x11a x11l x11c =>
          Al h_1 (.cells #[.slice x11a x11l x11c, .int .i64 (b0l : Int)] 94) fun b3 h_12 =>
          (SameV (some (.pointer x0)) (.pointer x0)) ∧
          (NN' x0 fun a8 =>
          SameV (some (.pointer (some a7))) (.pointer (some a8))) ∧
          (SameV (some (.pointer (some (a7.add 0)))) (.pointer (some (a7.add 0)))) ∧
          (Ld h_12 (a7.add 0) fun v6 => DM v6 fun x12 =>
          SameV (some (.map x10)) (.map x12)) ∧
          (SameV (some (.string name0)) (.string name0)) ∧
          RunU Try.prog (Instr.mapUpdate 88 (.map x10) (.string name0) (.pointer (some (Addr.mk b3 0 none)))) h_12 fun h_13 =>
          NN' x0 fun a9 =>
          Ld h_13 (a9.add 0) fun v7 => DM v7 fun x13 =>
          CallsH Try.prog 61 [.map x13] h_13 fun r14 h_14 =>
          DM r14 fun x14 =>
          NN' x0 fun a10 =>
          StC h_14 ((a10.add 1).add 0) (.map x14) fun h_16 =>
          NN' x0 fun a11 =>
          StC h_16 ((a11.add 2).add 0) (.slice none 0 0) fun h_18 =>
          CallsH Try.prog 66 [.pointer f0] h_18 fun r17 h_19 =>
          r17 = .tuple #[] ∧
          Q (.int .i64 0) h_19))))
theorem F71_eq : (fun (f0 : Option Addr) (dir0 : ByteArray) (name0 : ByteArray) (b0a : Option Addr) (b0l : Nat) (b0c : Nat) (h : Heap) (Q : Value → Heap → Prop) => fnPT Try.prog Try.f71 (fun _ => annNil) (fun _ => []) (fun i => bif Nat.beq i 10 then some ⟨[0, 1, 3, 7, 0, 0, 32, 0, 128, 480, 992, 2047], 3072⟩ else none) [.pointer f0, .string dir0, .string name0, .slice b0a b0l b0c] h Q) = F71 := by kernel_rfl
theorem F71_ok {f0 : Option Addr} {dir0 : ByteArray} {name0 : ByteArray} {b0a : Option Addr} {b0l : Nat} {b0c : Nat} {h : Heap} {Q : Value → Heap → Prop} (H : F71 f0 dir0 name0 b0a b0l b0c h Q) : CallsH Try.prog 71 [.pointer f0, .string dir0, .string name0, .slice b0a b0l b0c] h Q :=
  callsH_of (ann := fun _ => annNil) (tys := fun _ => []) (pl := fun i => bif Nat.beq i 10 then some ⟨[0, 1, 3, 7, 0, 0, 32, 0, 128, 480, 992, 2047], 3072⟩ else none) Try.func71 (by kernel_rfl) (by have e := F71_eq; exact (congrFun (congrFun (congrFun (congrFun (congrFun (congrFun (congrFun (congrFun (e) f0) dir0) name0) b0a) b0l) b0c) h) Q).symm ▸ H)

/-- (*headgate/headgateref06.FS).Mkdir -/
def F72 (f0 : Option Addr) (dir0 : ByteArray) (h : Heap) (Q : Value → Heap → Prop) : Prop :=
  CallsH Try.prog 112 [.pointer f0, .string dir0, .string dir0, .string dir0] h fun r0 h_0 =>
  ∃ (x0 : Int), ∃ (x1 : Int), r0 = .tuple #[.int .i64 x0, .int .i64 x1] ∧
  (bif (x1 : Int) == 0 then
    Q (.int .i64 63) h_0
  else
    (bif (x1 : Int) != 61 then
      Q (.int .i64 x1) h_0
    else
      NN' f0 fun a0 =>
      Ld h_0 (a0.add 5) fun v0 => DSl v0 fun x2a x2l x2c =>
      (bif decide (((x2l : Int) : Int) ≥ 64) then
        Q (.int .i64 66) h_0
      else
        CallsH Try.prog 113 [.pointer f0] h_0 fun r1 h_1 =>
        DI .i64 r1 fun e0 =>
        (bif (e0 : Int) != 0 then
          Q (.int .i64 e0) h_1
        else
          LoopH (fun again0 (s0 : Sl × Bool × Int) h_2 =>
            NN' f0 fun a1 =>
            Ld h_2 (a1.add 5) fun v1 => DSl v1 fun x3a x3l x3c =>
            (bif decide ((s0.2.2 : Int) < (x3l : Int)) then
              (bif !s0.2.1 then
                NN' f0 fun a2 =>
                Ld h_2 (a2.add 5) fun v2 => DSl v2 fun x4a x4l x4c =>
                IdxA x4a x4l s0.2.2 4 fun a3 =>
                Ld h_2 (a3.add 0) fun v3 => DS v3 fun x5 =>
                (bif !(strLt x5 dir0 || strEq x5 dir0) then
                  Al h_2 (.cells #[.string dir0, .slice none 0 0, .slice none 0 0, .slice none 0 0] 121) fun b0 h_3 =>
                  RunH Try.prog (Builtin.append_ #[108, 108] 108 #[.slice s0.1.a s0.1.l s0.1.c, .slice (some (Addr.mk b0 0 none)) 1 1]) h_3 fun r3 h_4 =>
                  DSl r3 fun l_0a l_0l l_0c =>
                  NN' f0 fun a4 =>
                  Ld h_4 (a4.add 5) fun v4 => DSl v4 fun x6a x6l x6c =>
                  IdxA x6a x6l s0.2.2 4 fun a5 =>
                  Ld h_4 (a5.add 0) fun c0 =>
                  Ld h_4 (a5.add 1) fun c1 =>
                  Ld h_4 (a5.add 2) fun c2 =>
                  Ld h_4 (a5.add 3) fun c3 =>
                  ∃ (x7 : ByteArray), ∃ (x8a : Option Addr), ∃ (x8l : Nat), ∃ (x8c : Nat), ∃ (x9a : Option Addr), ∃ (x9l : Nat), ∃ (x9c : Nat), ∃ (x10a : Option Addr), ∃ (x10l : Nat), ∃ (x10c : Nat), (Value.agg #[c0, c1, c2, c3]) = .agg #[.string x7, .slice x8a x8l x8c, .slice x9a x9l x9c, .slice x10a x10l x10c] ∧
                  Al h_4 (.cells #[.string x7, .slice x8a x8l x8c, .slice x9a x9l x9c, .slice x10a x10l x10c] 121) fun b1 h_5 =>
                  RunH Try.prog (Builtin.append_ #[108, 108] 108 #[.slice l_0a l_0l l_0c, .slice (some (Addr.mk b1 0 none)) 1 1]) h_5 fun r5 h_6 =>
                  DSl r5 fun l_1a l_1l l_1c =>
                  again0 (⟨l_1a, l_1l, l_1c⟩, true, IntKind.wrap .i64 (s0.2.2 + 1)) h_6
                else
                  NN' f0 fun a6 =>
                  Ld h_2 (a6.add 5) fun v5 => DSl v5 fun x11a x11l x11c =>
                  IdxA x11a x11l s0.2.2 4 fun a7 =>
                  Ld h_2 (a7.add 0) fun c4 =>
                  Ld h_2 (a7.add 1) fun c5 =>
                  Ld h_2 (a7.add 2) fun c6 =>
                  Ld h_2 (a7.add 3) fun c7 =>
                  ∃ (x12 : ByteArray), ∃ (x13a : Option Addr), ∃ (x13l : Nat), ∃ (x13c : Nat), ∃ (x14a : Option Addr), ∃ (x14l : Nat), ∃ (x14c : Nat), ∃ (x15a : Option Addr), ∃ (x15l : Nat), ∃ (x15c : Nat), (Value.agg #[c4, c5, c6, c7]) = .agg #[.string x12, .slice x13a x13l x13c, .slice x14a x14l x14c, .slice x15a x15l x15c] ∧
                  Al h_2 (.cells #[.string x12, .slice x13a x13l x13c, .slice x14a x14l x14c, .slice x15a x15l x15c] 121) fun b2 h_7 =>
                  RunH Try.prog (Builtin.append_ #[108, 108] 108 #[.slice s0.1.a s0.1.l s0.1.c, .slice (some (Addr.mk b2 0 none)) 1 1]) h_7 fun r7 h_8 =>
                  DSl r7 fun l_2a l_2l l_2c =>
                  again0 (⟨l_2a, l_2l, l_2c⟩, s0.2.1, IntKind.wrap .i64 (s0.2.2 + 1)) h_8)
              else
                NN' f0 fun a8 =>
                Ld h_2 (a8.add 5) fun v6 => DSl v6 fun x16a x16l x16c =>
                IdxA x16a x16l s0.2.2 4 fun a9 =>
                Ld h_2 (a9.add 0) fun c8 =>
                Ld h_2 (a9.add 1) fun c9 =>
                Ld h_2 (a9.add 2) fun c10 =>
                Ld h_2 (a9.add 3) fun c11 =>
                ∃ (x17 : ByteArray), ∃ (x18a : Option Addr), ∃ (x18l : Nat), ∃ (x18c : Nat), ∃ (x19a : Option Addr), ∃ (x19l : Nat), ∃ (x19c : Nat), ∃ (x20a : Option Addr), ∃ (x20l : Nat), ∃ (x20c : Nat), (Value.agg #[c8, c9, c10, c11]) = .agg #[.string x17, .slice x18a x18l x18c, .slice x19a x19l x19c, .slice x20a x20l x20c] ∧
                Al h_2 (.cells #[.string x17, .slice x18a x18l x18c, .slice x19a x19l x19c, .slice x20a x20l x20c] 121) fun b3 h_9 =>
                RunH Try.prog (Builtin.append_ #[108, 108] 108 #[.slice s0.1.a s0.1.l s0.1.c, .slice (some (Addr.mk b3 0 none)) 1 1]) h_9 fun r9 h_10 =>
                DSl r9 fun l_3a l_3l l_3c =>
                again0 (⟨l_3a, l_3l, l_3c⟩, s0.2.1, IntKind.wrap .i64 (s0.2.2 + 1)) h_10)
            else
              (bif !s0.2.1 then
                Al h_2 (.cells #[.string dir0, .slice none 0 0, .slice none 0 0, .slice none 0 0] 121) fun b4 h_11 =>
                RunH Try.prog (Builtin.append_ #[108, 108] 108 #[.slice s0.1.a s0.1.l s0.1.c, .slice (some (Addr.mk b4 0 none)) 1 1]) h_11 fun r11 h_12 =>
                DSl r11 fun l_4a l_4l l_4c =>
                NN' f0 fun a10 =>
                StC h_12 ((a10.add 5).add 0) (.slice l_4a l_4l l_4c) fun h_14 =>
                Q (.int .i64 0) h_14
              else
                NN' f0 fun a11 =>
                StC h_2 ((a11.add 5).add 0) (.slice s0.1.a s0.1.l s0.1.c) fun h_16 =>
                Q (.int .i64 0) h_16))) (⟨none, 0, 0⟩, false, 0) h_1))))
theorem F72_eq : (fun (f0 : Option Addr) (dir0 : ByteArray) (h : Heap) (Q : Value → Heap → Prop) => fnPT Try.prog Try.f72 (fun i => bif Nat.beq i 0 then annCons 7 (codSl) (annCons 8 (codB) (annOne 9 (codI .i64))) else annNil) (fun _ => []) (fun _ => none) [.pointer f0, .string dir0] h Q) = F72 := by kernel_rfl
theorem F72_ok {f0 : Option Addr} {dir0 : ByteArray} {h : Heap} {Q : Value → Heap → Prop} (H : F72 f0 dir0 h Q) : CallsH Try.prog 72 [.pointer f0, .string dir0] h Q :=
  callsH_of (ann := fun i => bif Nat.beq i 0 then annCons 7 (codSl) (annCons 8 (codB) (annOne 9 (codI .i64))) else annNil) (tys := fun _ => []) (pl := fun _ => none) Try.func72 (by kernel_rfl) (by have e := F72_eq; exact (congrFun (congrFun (congrFun (congrFun (e) f0) dir0) h) Q).symm ▸ H)

/-- (*headgate/headgateref06.FS).Create -/
def F73 (f0 : Option Addr) (dir0 : ByteArray) (name0 : ByteArray) (h : Heap) (Q : Value → Heap → Prop) : Prop :=
  CallsH Try.prog 112 [.pointer f0, .string dir0, .string name0, .string name0] h fun r0 h_0 =>
  ∃ (x0 : Int), ∃ (x1 : Int), r0 = .tuple #[.int .i64 x0, .int .i64 x1] ∧
  (bif (x1 : Int) != 0 then
    Q (.int .i64 x1) h_0
  else
    NN' f0 fun a0 =>
    Ld h_0 (a0.add 5) fun v0 => DSl v0 fun x2a x2l x2c =>
    IdxA x2a x2l x0 4 fun a1 =>
    Ld h_0 (a1.add 1) fun v1 => DSl v1 fun x3a x3l x3c =>
    CallsH Try.prog 114 [.slice x3a x3l x3c, .string name0] h_0 fun r1 h_1 =>
    DI .i64 r1 fun x4 =>
    (bif decide ((x4 : Int) ≥ 0) then
      Q (.int .i64 63) h_1
    else
      NN' f0 fun a2 =>
      Ld h_1 (a2.add 5) fun v2 => DSl v2 fun x5a x5l x5c =>
      IdxA x5a x5l x0 4 fun a3 =>
      Ld h_1 (a3.add 1) fun v3 => DSl v3 fun x6a x6l x6c =>
      (bif decide (((x6l : Int) : Int) ≥ 4096) then
        Q (.int .i64 66) h_1
      else
        NN' f0 fun a4 =>
        Ld h_1 (a4.add 4) fun v4 => DSl v4 fun x7a x7l x7c =>
        CallsH Try.prog 115 [.pointer f0, .int .i64 x0, .agg #[.int .i64 1, .string name0, .string .empty, .int .i64 (x7l : Int)]] h_1 fun r2 h_2 =>
        DI .i64 r2 fun e0 =>
        (bif (e0 : Int) == 0 then
          NN' f0 fun a5 =>
          Ld h_2 (a5.add 4) fun v5 => DSl v5 fun x8a x8l x8c =>
          Al h_2 (.cells #[.string .empty, .int .i64 0] 156) fun b0 h_3 =>
          RunH Try.prog (Builtin.append_ #[107, 107] 107 #[.slice x8a x8l x8c, .slice (some (Addr.mk b0 0 none)) 1 1]) h_3 fun r4 h_4 =>
          DSl r4 fun x9a x9l x9c =>
          NN' f0 fun a6 =>
          StC h_4 ((a6.add 4).add 0) (.slice x9a x9l x9c) fun h_6 =>
          Q (.int .i64 e0) h_6
        else
          Q (.int .i64 e0) h_2))))
theorem F73_eq : (fun (f0 : Option Addr) (dir0 : ByteArray) (name0 : ByteArray) (h : Heap) (Q : Value → Heap → Prop) => fnPT Try.prog Try.f73 (fun _ => annNil) (fun _ => []) (fun _ => none) [.pointer f0, .string dir0, .string name0] h Q) = F73 := by kernel_rfl
theorem F73_ok {f0 : Option Addr} {dir0 : ByteArray} {name0 : ByteArray} {h : Heap} {Q : Value → Heap → Prop} (H : F73 f0 dir0 name0 h Q) : CallsH Try.prog 73 [.pointer f0, .string dir0, .string name0] h Q :=
  callsH_of (ann := fun _ => annNil) (tys := fun _ => []) (pl := fun _ => none) Try.func73 (by kernel_rfl) (by have e := F73_eq; exact (congrFun (congrFun (congrFun (congrFun (congrFun (e) f0) dir0) name0) h) Q).symm ▸ H)

/-- (*headgate/headgateref06.FS).Append -/
def F74 (f0 : Option Addr) (dir0 : ByteArray) (name0 : ByteArray) (b0 : ByteArray) (h : Heap) (Q : Value → Heap → Prop) : Prop :=
  CallsH Try.prog 116 [.pointer f0, .string dir0, .string name0] h fun r0 h_0 =>
  ∃ (x0 : Int), ∃ (x1 : Int), ∃ (x2 : Int), r0 = .tuple #[.int .i64 x0, .int .i64 x1, .int .i64 x2] ∧
  (bif (x2 : Int) != 0 then
    Q (.int .i64 x2) h_0
  else
    NN' f0 fun a0 =>
    Ld h_0 (a0.add 4) fun v0 => DSl v0 fun x3a x3l x3c =>
    IdxA x3a x3l x1 2 fun a1 =>
    Ld h_0 (a1.add 0) fun v1 => DS v1 fun x4 =>
    (bif decide (((IntKind.wrap .i64 (((x4 : ByteArray).size : Int) + ((b0 : ByteArray).size : Int))) : Int) > 16777216) then
      Q (.int .i64 67) h_0
    else
      ∃ r2, (CallsH Try.prog 84 [.pointer f0] h_0 fun r1 h_1 =>
      r1 = r2 ∧ h_1 = h_0) ∧
      DI .i64 r2 fun x5 =>
      NN' f0 fun a2 =>
      Ld h_0 (a2.add 0) fun v2 => DI .i64 v2 fun x6 =>
      (bif decide (((IntKind.wrap .i64 (x5 + ((b0 : ByteArray).size : Int))) : Int) > x6) then
        Q (.int .i64 64) h_0
      else
        CallsH Try.prog 113 [.pointer f0] h_0 fun r3 h_2 =>
        DI .i64 r3 fun e0 =>
        (bif (e0 : Int) == 0 then
          NN' f0 fun a3 =>
          Ld h_2 (a3.add 4) fun v3 => DSl v3 fun x7a x7l x7c =>
          NN' f0 fun a4 =>
          Ld h_2 (a4.add 4) fun v4 => DSl v4 fun x8a x8l x8c =>
          IdxA x8a x8l x1 2 fun a5 =>
          Ld h_2 (a5.add 0) fun v5 => DS v5 fun x9 =>
          (x9 : ByteArray).size + (b0 : ByteArray).size ≤ 9223372036854775807 ∧
          IdxA x7a x7l x1 2 fun a6 =>
          StC h_2 ((a6.add 0).add 0) (.string (x9 ++ b0)) fun h_4 =>
          Q (.int .i64 e0) h_4
        else
          Q (.int .i64 e0) h_2))))
theorem F74_eq : (fun (f0 : Option Addr) (dir0 : ByteArray) (name0 : ByteArray) (b0 : ByteArray) (h : Heap) (Q : Value → Heap → Prop) => fnPT Try.prog Try.f74 (fun _ => annNil) (fun _ => []) (fun i => bif Nat.beq i 10 then some ⟨[0, 1, 3, 7, 0, 0, 32, 96, 224, 0, 992, 2016, 4064, 0, 16352, 32767, 65535, 131071], 131072⟩ else none) [.pointer f0, .string dir0, .string name0, .string b0] h Q) = F74 := by kernel_rfl
theorem F74_ok {f0 : Option Addr} {dir0 : ByteArray} {name0 : ByteArray} {b0 : ByteArray} {h : Heap} {Q : Value → Heap → Prop} (H : F74 f0 dir0 name0 b0 h Q) : CallsH Try.prog 74 [.pointer f0, .string dir0, .string name0, .string b0] h Q :=
  callsH_of (ann := fun _ => annNil) (tys := fun _ => []) (pl := fun i => bif Nat.beq i 10 then some ⟨[0, 1, 3, 7, 0, 0, 32, 96, 224, 0, 992, 2016, 4064, 0, 16352, 32767, 65535, 131071], 131072⟩ else none) Try.func74 (by kernel_rfl) (by have e := F74_eq; exact (congrFun (congrFun (congrFun (congrFun (congrFun (congrFun (e) f0) dir0) name0) b0) h) Q).symm ▸ H)

/-- (*headgate/headgateref06.FS).Sync -/
def F75 (f0 : Option Addr) (dir0 : ByteArray) (name0 : ByteArray) (h : Heap) (Q : Value → Heap → Prop) : Prop :=
  CallsH Try.prog 116 [.pointer f0, .string dir0, .string name0] h fun r0 h_0 =>
  ∃ (x0 : Int), ∃ (x1 : Int), ∃ (x2 : Int), r0 = .tuple #[.int .i64 x0, .int .i64 x1, .int .i64 x2] ∧
  (bif (x2 : Int) != 0 then
    Q (.int .i64 x2) h_0
  else
    CallsH Try.prog 113 [.pointer f0] h_0 fun r1 h_1 =>
    DI .i64 r1 fun e0 =>
    (bif (e0 : Int) == 0 then
      NN' f0 fun a0 =>
      Ld h_1 (a0.add 4) fun v0 => DSl v0 fun x3a x3l x3c =>
      NN' f0 fun a1 =>
      Ld h_1 (a1.add 4) fun v1 => DSl v1 fun x4a x4l x4c =>
      IdxA x4a x4l x1 2 fun a2 =>
      Ld h_1 (a2.add 0) fun v2 => DS v2 fun x5 =>
      IdxA x3a x3l x1 2 fun a3 =>
      StC h_1 ((a3.add 1).add 0) (.int .i64 ((x5 : ByteArray).size : Int)) fun h_3 =>
      Q (.int .i64 e0) h_3
    else
      Q (.int .i64 e0) h_1))
theorem F75_eq : (fun (f0 : Option Addr) (dir0 : ByteArray) (name0 : ByteArray) (h : Heap) (Q : Value → Heap → Prop) => fnPT Try.prog Try.f75 (fun _ => annNil) (fun _ => []) (fun i => bif Nat.beq i 6 then some ⟨[0, 1, 3, 7, 0, 0, 32, 96, 224, 0, 992, 2016, 4064, 8160, 16383, 32767, 65535], 65536⟩ else none) [.pointer f0, .string dir0, .string name0] h Q) = F75 := by kernel_rfl
theorem F75_ok {f0 : Option Addr} {dir0 : ByteArray} {name0 : ByteArray} {h : Heap} {Q : Value → Heap → Prop} (H : F75 f0 dir0 name0 h Q) : CallsH Try.prog 75 [.pointer f0, .string dir0, .string name0] h Q :=
  callsH_of (ann := fun _ => annNil) (tys := fun _ => []) (pl := fun i => bif Nat.beq i 6 then some ⟨[0, 1, 3, 7, 0, 0, 32, 96, 224, 0, 992, 2016, 4064, 8160, 16383, 32767, 65535], 65536⟩ else none) Try.func75 (by kernel_rfl) (by have e := F75_eq; exact (congrFun (congrFun (congrFun (congrFun (congrFun (e) f0) dir0) name0) h) Q).symm ▸ H)

/-- (*headgate/headgateref06.FS).SyncDir -/
def F76 (f0 : Option Addr) (dir0 : ByteArray) (h : Heap) (Q : Value → Heap → Prop) : Prop :=
  CallsH Try.prog 112 [.pointer f0, .string dir0, .string dir0, .string dir0] h fun r0 h_0 =>
  ∃ (x0 : Int), ∃ (x1 : Int), r0 = .tuple #[.int .i64 x0, .int .i64 x1] ∧
  (bif (x1 : Int) != 0 then
    Q (.int .i64 x1) h_0
  else
    CallsH Try.prog 113 [.pointer f0] h_0 fun r1 h_1 =>
    DI .i64 r1 fun e0 =>
    (bif (e0 : Int) == 0 then
      NN' f0 fun a0 =>
      Ld h_1 (a0.add 5) fun v0 => DSl v0 fun x2a x2l x2c =>
      NN' f0 fun a1 =>
      Ld h_1 (a1.add 5) fun v1 => DSl v1 fun x3a x3l x3c =>
      IdxA x3a x3l x0 4 fun a2 =>
      Ld h_1 (a2.add 1) fun v2 => DSl v2 fun x4a x4l x4c =>
      IdxA x2a x2l x0 4 fun a3 =>
      StC h_1 ((a3.add 2).add 0) (.slice x4a x4l x4c) fun h_3 =>
      NN' f0 fun a4 =>
      Ld h_3 (a4.add 5) fun v3 => DSl v3 fun x5a x5l x5c =>
      IdxA x5a x5l x0 4 fun a5 =>
      StC h_3 ((a5.add 3).add 0) (.slice none 0 0) fun h_5 =>
      Q (.int .i64 e0) h_5
    else
      Q (.int .i64 e0) h_1))
theorem F76_eq : (fun (f0 : Option Addr) (dir0 : ByteArray) (h : Heap) (Q : Value → Heap → Prop) => fnPT Try.prog Try.f76 (fun _ => annNil) (fun _ => []) (fun i => bif Nat.beq i 6 then some ⟨[0, 1, 3, 7, 0, 0, 32, 96, 224, 0, 992, 2016, 4064, 8191, 16383, 32767], 32768⟩ else none) [.pointer f0, .string dir0] h Q) = F76 := by kernel_rfl
theorem F76_ok {f0 : Option Addr} {dir0 : ByteArray} {h : Heap} {Q : Value → Heap → Prop} (H : F76 f0 dir0 h Q) : CallsH Try.prog 76 [.pointer f0, .string dir0] h Q :=
  callsH_of (ann := fun _ => annNil) (tys := fun _ => []) (pl := fun i => bif Nat.beq i 6 then some ⟨[0, 1, 3, 7, 0, 0, 32, 96, 224, 0, 992, 2016, 4064, 8191, 16383, 32767], 32768⟩ else none) Try.func76 (by kernel_rfl) (by have e := F76_eq; exact (congrFun (congrFun (congrFun (congrFun (e) f0) dir0) h) Q).symm ▸ H)

/-- (*headgate/headgateref06.FS).Rename -/
def F77 (f0 : Option Addr) (dir0 : ByteArray) (from_0 : ByteArray) (to0 : ByteArray) (h : Heap) (Q : Value → Heap → Prop) : Prop :=
  CallsH Try.prog 112 [.pointer f0, .string dir0, .string from_0, .string to0] h fun r0 h_0 =>
  ∃ (x0 : Int), ∃ (x1 : Int), r0 = .tuple #[.int .i64 x0, .int .i64 x1] ∧
  (bif (x1 : Int) != 0 then
    Q (.int .i64 x1) h_0
  else
    NN' f0 fun a0 =>
    Ld h_0 (a0.add 5) fun v0 => DSl v0 fun x2a x2l x2c =>
    IdxA x2a x2l x0 4 fun a1 =>
    Ld h_0 (a1.add 1) fun v1 => DSl v1 fun x3a x3l x3c =>
    CallsH Try.prog 114 [.slice x3a x3l x3c, .string from_0] h_0 fun r1 h_1 =>
    DI .i64 r1 fun x4 =>
    (bif decide ((x4 : Int) < 0) then
      Q (.int .i64 62) h_1
    else
      CallsH Try.prog 115 [.pointer f0, .int .i64 x0, .agg #[.int .i64 2, .string from_0, .string to0, .int .i64 0]] h_1 fun r2 h_2 =>
      DI .i64 r2 fun x5 =>
      Q (.int .i64 x5) h_2))
theorem F77_eq : (fun (f0 : Option Addr) (dir0 : ByteArray) (from_0 : ByteArray) (to0 : ByteArray) (h : Heap) (Q : Value → Heap → Prop) => fnPT Try.prog Try.f77 (fun _ => annNil) (fun _ => []) (fun _ => none) [.pointer f0, .string dir0, .string from_0, .string to0] h Q) = F77 := by kernel_rfl
theorem F77_ok {f0 : Option Addr} {dir0 : ByteArray} {from_0 : ByteArray} {to0 : ByteArray} {h : Heap} {Q : Value → Heap → Prop} (H : F77 f0 dir0 from_0 to0 h Q) : CallsH Try.prog 77 [.pointer f0, .string dir0, .string from_0, .string to0] h Q :=
  callsH_of (ann := fun _ => annNil) (tys := fun _ => []) (pl := fun _ => none) Try.func77 (by kernel_rfl) (by have e := F77_eq; exact (congrFun (congrFun (congrFun (congrFun (congrFun (congrFun (e) f0) dir0) from_0) to0) h) Q).symm ▸ H)

/-- (*headgate/headgateref06.FS).Remove -/
def F78 (f0 : Option Addr) (dir0 : ByteArray) (name0 : ByteArray) (h : Heap) (Q : Value → Heap → Prop) : Prop :=
  CallsH Try.prog 116 [.pointer f0, .string dir0, .string name0] h fun r0 h_0 =>
  ∃ (x0 : Int), ∃ (x1 : Int), ∃ (x2 : Int), r0 = .tuple #[.int .i64 x0, .int .i64 x1, .int .i64 x2] ∧
  (bif (x2 : Int) != 0 then
    Q (.int .i64 x2) h_0
  else
    CallsH Try.prog 115 [.pointer f0, .int .i64 x0, .agg #[.int .i64 3, .string name0, .string .empty, .int .i64 0]] h_0 fun r1 h_1 =>
    DI .i64 r1 fun x3 =>
    Q (.int .i64 x3) h_1)
theorem F78_eq : (fun (f0 : Option Addr) (dir0 : ByteArray) (name0 : ByteArray) (h : Heap) (Q : Value → Heap → Prop) => fnPT Try.prog Try.f78 (fun _ => annNil) (fun _ => []) (fun _ => none) [.pointer f0, .string dir0, .string name0] h Q) = F78 := by kernel_rfl
theorem F78_ok {f0 : Option Addr} {dir0 : ByteArray} {name0 : ByteArray} {h : Heap} {Q : Value → Heap → Prop} (H : F78 f0 dir0 name0 h Q) : CallsH Try.prog 78 [.pointer f0, .string dir0, .string name0] h Q :=
  callsH_of (ann := fun _ => annNil) (tys := fun _ => []) (pl := fun _ => none) Try.func78 (by kernel_rfl) (by have e := F78_eq; exact (congrFun (congrFun (congrFun (congrFun (congrFun (e) f0) dir0) name0) h) Q).symm ▸ H)

/-- (*headgate/headgateref06.FS).Roomed -/
def F79 (f0 : Option Addr) (n0 : Int) (h : Heap) (Q : Value → Heap → Prop) : Prop :=
  (bif decide ((n0 : Int) < 0) then
    Q (.int .i64 2) h
  else
    (bif decide ((n0 : Int) > 1073741824) then
      Q (.int .i64 2) h
    else
      NN' f0 fun a0 =>
      StC h ((a0.add 0).add 0) (.int .i64 n0) fun h_1 =>
      Q (.int .i64 0) h_1))
theorem F79_eq : (fun (f0 : Option Addr) (n0 : Int) (h : Heap) (Q : Value → Heap → Prop) => fnPT Try.prog Try.f79 (fun _ => annNil) (fun _ => []) (fun _ => none) [.pointer f0, .int .i64 n0] h Q) = F79 := by kernel_rfl
theorem F79_ok {f0 : Option Addr} {n0 : Int} {h : Heap} {Q : Value → Heap → Prop} (H : F79 f0 n0 h Q) : CallsH Try.prog 79 [.pointer f0, .int .i64 n0] h Q :=
  callsH_of (ann := fun _ => annNil) (tys := fun _ => []) (pl := fun _ => none) Try.func79 (by kernel_rfl) (by have e := F79_eq; exact (congrFun (congrFun (congrFun (congrFun (e) f0) n0) h) Q).symm ▸ H)

/-- (*headgate/headgateref06.FS).Fused -/
def F80 (f0 : Option Addr) (n0 : Int) (h : Heap) (Q : Value → Heap → Prop) : Prop :=
  (bif decide ((n0 : Int) < 0) then
    Q (.int .i64 2) h
  else
    NN' f0 fun a0 =>
    StC h ((a0.add 2).add 0) (.int .i64 n0) fun h_1 =>
    Q (.int .i64 0) h_1)
theorem F80_eq : (fun (f0 : Option Addr) (n0 : Int) (h : Heap) (Q : Value → Heap → Prop) => fnPT Try.prog Try.f80 (fun _ => annNil) (fun _ => []) (fun _ => none) [.pointer f0, .int .i64 n0] h Q) = F80 := by kernel_rfl
theorem F80_ok {f0 : Option Addr} {n0 : Int} {h : Heap} {Q : Value → Heap → Prop} (H : F80 f0 n0 h Q) : CallsH Try.prog 80 [.pointer f0, .int .i64 n0] h Q :=
  callsH_of (ann := fun _ => annNil) (tys := fun _ => []) (pl := fun _ => none) Try.func80 (by kernel_rfl) (by have e := F80_eq; exact (congrFun (congrFun (congrFun (congrFun (e) f0) n0) h) Q).symm ▸ H)

/-- (*headgate/headgateref06.FS).Crash -/
def F81 (f0 : Option Addr) (picks0a : Option Addr) (picks0l : Nat) (picks0c : Nat) (h : Heap) (Q : Value → Heap → Prop) : Prop :=
  LoopH (fun again0 (s0 : Sl × Int) h_0 =>
    NN' f0 fun a0 =>
    Ld h_0 (a0.add 5) fun v0 => DSl v0 fun x0a x0l x0c =>
    (bif decide ((s0.2 : Int) < (x0l : Int)) then
      NN' f0 fun a1 =>
      Ld h_0 (a1.add 5) fun v1 => DSl v1 fun x1a x1l x1c =>
      IdxA x1a x1l s0.2 4 fun a2 =>
      Ld h_0 (a2.add 3) fun v2 => DSl v2 fun x2a x2l x2c =>
      CallsH Try.prog 117 [.slice s0.1.a s0.1.l s0.1.c, .int .i64 (x2l : Int)] h_0 fun r0 h_1 =>
      ∃ (x3 : Int), ∃ (x4a : Option Addr), ∃ (x4l : Nat), ∃ (x4c : Nat), r0 = .tuple #[.int .i64 x3, .slice x4a x4l x4c] ∧
      NN' f0 fun a3 =>
      Ld h_1 (a3.add 5) fun v3 => DSl v3 fun x5a x5l x5c =>
      IdxA x5a x5l s0.2 4 fun a4 =>
      Ld h_1 (a4.add 2) fun v4 => DSl v4 fun now0a now0l now0c =>
      LoopH (fun again1 (s1 : Sl × Int) h_2 =>
        (bif decide ((s1.2 : Int) < x3) then
          NN' f0 fun a5 =>
          Ld h_2 (a5.add 5) fun v5 => DSl v5 fun x6a x6l x6c =>
          IdxA x6a x6l s0.2 4 fun a6 =>
          Ld h_2 (a6.add 3) fun v6 => DSl v6 fun x7a x7l x7c =>
          IdxA x7a x7l s1.2 4 fun a7 =>
          Ld h_2 (a7.add 0) fun c0 =>
          Ld h_2 (a7.add 1) fun c1 =>
          Ld h_2 (a7.add 2) fun c2 =>
          Ld h_2 (a7.add 3) fun c3 =>
          ∃ (x8 : Int), ∃ (x9 : ByteArray), ∃ (x10 : ByteArray), ∃ (x11 : Int), (Value.agg #[c0, c1, c2, c3]) = .agg #[.int .i64 x8, .string x9, .string x10, .int .i64 x11] ∧
          CallsH Try.prog 118 [.slice s1.1.a s1.1.l s1.1.c, .agg #[.int .i64 x8, .string x9, .string x10, .int .i64 x11]] h_2 fun r1 h_3 =>
          DSl r1 fun now1a now1l now1c =>
          again1 (⟨now1a, now1l, now1c⟩, IntKind.wrap .i64 (s1.2 + 1)) h_3
        else
          NN' f0 fun a8 =>
          Ld h_2 (a8.add 5) fun v7 => DSl v7 fun x12a x12l x12c =>
          NN' f0 fun a9 =>
          Ld h_2 (a9.add 5) fun v8 => DSl v8 fun x13a x13l x13c =>
          IdxA x13a x13l s0.2 4 fun a10 =>
          Ld h_2 (a10.add 0) fun v9 => DS v9 fun x14 =>
          IdxA x12a x12l s0.2 4 fun a11 =>
          StC h_2 (a11.add 0) (.string x14) fun h_5 =>
          StC h_5 (a11.add 1) (.slice s1.1.a s1.1.l s1.1.c) fun h_6 =>
          StC h_6 (a11.add 2) (.slice s1.1.a s1.1.l s1.1.c) fun h_7 =>
          StC h_7 (a11.add 3) (.slice none 0 0) fun h_8 =>
          again0 (⟨x4a, x4l, x4c⟩, IntKind.wrap .i64 (s0.2 + 1)) h_8)) (⟨now0a, now0l, now0c⟩, 0) h_1
    else
      LoopH (fun again2 (s2 : Sl × Int) h_9 =>
        NN' f0 fun a12 =>
        Ld h_9 (a12.add 5) fun v10 => DSl v10 fun x15a x15l x15c =>
        (bif decide ((s2.2 : Int) < (x15l : Int)) then
          LoopH (fun again3 (s3 : Sl × Int) h_10 =>
            NN' f0 fun a13 =>
            Ld h_10 (a13.add 5) fun v11 => DSl v11 fun x16a x16l x16c =>
            IdxA x16a x16l s2.2 4 fun a14 =>
            Ld h_10 (a14.add 1) fun v12 => DSl v12 fun x17a x17l x17c =>
            (bif decide ((s3.2 : Int) < (x17l : Int)) then
              NN' f0 fun a15 =>
              Ld h_10 (a15.add 5) fun v13 => DSl v13 fun x18a x18l x18c =>
              IdxA x18a x18l s2.2 4 fun a16 =>
              Ld h_10 (a16.add 1) fun v14 => DSl v14 fun x19a x19l x19c =>
              IdxA x19a x19l s3.2 2 fun a17 =>
              Ld h_10 (a17.add 1) fun v15 => DI .i64 v15 fun x20 =>
              NN' f0 fun a18 =>
              Ld h_10 (a18.add 4) fun v16 => DSl v16 fun x21a x21l x21c =>
              IdxA x21a x21l x20 2 fun a19 =>
              Ld h_10 (a19.add 0) fun v17 => DS v17 fun x22 =>
              NN' f0 fun a20 =>
              Ld h_10 (a20.add 4) fun v18 => DSl v18 fun x23a x23l x23c =>
              IdxA x23a x23l x20 2 fun a21 =>
              Ld h_10 (a21.add 1) fun v19 => DI .i64 v19 fun x24 =>
              ∃ r4, (CallsH Try.prog 117 [.slice s3.1.a s3.1.l s3.1.c, .int .i64 (IntKind.wrap .i64 (((x22 : ByteArray).size : Int) - x24))] h_10 fun r3 h_11 =>
              r3 = r4 ∧ h_11 = h_10) ∧
              ∃ (x25 : Int), ∃ (x26a : Option Addr), ∃ (x26l : Nat), ∃ (x26c : Nat), r4 = .tuple #[.int .i64 x25, .slice x26a x26l x26c] ∧
              NN' f0 fun a22 =>
              Ld h_10 (a22.add 4) fun v20 => DSl v20 fun x27a x27l x27c =>
              NN' f0 fun a23 =>
              Ld h_10 (a23.add 4) fun v21 => DSl v21 fun x28a x28l x28c =>
              IdxA x28a x28l x20 2 fun a24 =>
              Ld h_10 (a24.add 0) fun v22 => DS v22 fun x29 =>
              NN' f0 fun a25 =>
              Ld h_10 (a25.add 4) fun v23 => DSl v23 fun x30a x30l x30c =>
              IdxA x30a x30l x20 2 fun a26 =>
              Ld h_10 (a26.add 1) fun v24 => DI .i64 v24 fun x31 =>
              SlS x29 0 (IntKind.wrap .i64 (x31 + x25)) fun s4 =>
              IdxA x27a x27l x20 2 fun a27 =>
              StC h_10 ((a27.add 0).add 0) (.string s4) fun h_13 =>
              NN' f0 fun a28 =>
              Ld h_13 (a28.add 4) fun v25 => DSl v25 fun x32a x32l x32c =>
              NN' f0 fun a29 =>
              Ld h_13 (a29.add 4) fun v26 => DSl v26 fun x33a x33l x33c =>
              IdxA x33a x33l x20 2 fun a30 =>
              Ld h_13 (a30.add 0) fun v27 => DS v27 fun x34 =>
              IdxA x32a x32l x20 2 fun a31 =>
              StC h_13 ((a31.add 1).add 0) (.int .i64 ((x34 : ByteArray).size : Int)) fun h_15 =>
              again3 (⟨x26a, x26l, x26c⟩, IntKind.wrap .i64 (s3.2 + 1)) h_15
            else
              again2 (⟨s3.1.a, s3.1.l, s3.1.c⟩, IntKind.wrap .i64 (s2.2 + 1)) h_10)) (⟨s2.1.a, s2.1.l, s2.1.c⟩, 0) h_9
        else
          NN' f0 fun a32 =>
          StC h_9 ((a32.add 3).add 0) (.bool false) fun h_17 =>
          NN' f0 fun a33 =>
          StC h_17 ((a33.add 2).add 0) (.int .i64 (-1)) fun h_19 =>
          Q (.tuple #[]) h_19)) (⟨s0.1.a, s0.1.l, s0.1.c⟩, 0) h_0)) (⟨picks0a, picks0l, picks0c⟩, 0) h
theorem F81_eq : (fun (f0 : Option Addr) (picks0a : Option Addr) (picks0l : Nat) (picks0c : Nat) (h : Heap) (Q : Value → Heap → Prop) => fnPT Try.prog Try.f81 (fun i => bif Nat.beq i 0 then annCons 4 (codSl) (annOne 5 (codI .i64)) else bif Nat.beq i 2 then annCons 7 (codSl) (annOne 8 (codI .i64)) else bif Nat.beq i 4 then annCons 4 (codSl) (annOne 9 (codI .i64)) else bif Nat.beq i 6 then annCons 4 (codSl) (annOne 10 (codI .i64)) else annNil) (fun _ => []) (fun i => bif Nat.beq i 11 then some ⟨[0, 1, 3, 7, 0, 0, 32, 96, 224, 0, 992, 2016, 4064, 0, 0, 32736, 65535, 131071], 131072⟩ else bif Nat.beq i 21 then some ⟨[0, 1, 3, 7, 0, 0, 32, 96, 224, 0, 992, 2016, 4064, 0, 8192, 24576, 57344, 0, 253952, 516096, 1040384, 0, 4186112, 8388576, 16777215, 33554431, 67108863], 67108864⟩ else bif Nat.beq i 22 then some ⟨[0, 1, 3, 7, 0, 0, 32, 96, 224, 0, 992, 2016, 4064, 8160, 16383, 32767, 65535], 65536⟩ else none) [.pointer f0, .slice picks0a picks0l picks0c] h Q) = F81 := by kernel_rfl
theorem F81_ok {f0 : Option Addr} {picks0a : Option Addr} {picks0l : Nat} {picks0c : Nat} {h : Heap} {Q : Value → Heap → Prop} (H : F81 f0 picks0a picks0l picks0c h Q) : CallsH Try.prog 81 [.pointer f0, .slice picks0a picks0l picks0c] h Q :=
  callsH_of (ann := fun i => bif Nat.beq i 0 then annCons 4 (codSl) (annOne 5 (codI .i64)) else bif Nat.beq i 2 then annCons 7 (codSl) (annOne 8 (codI .i64)) else bif Nat.beq i 4 then annCons 4 (codSl) (annOne 9 (codI .i64)) else bif Nat.beq i 6 then annCons 4 (codSl) (annOne 10 (codI .i64)) else annNil) (tys := fun _ => []) (pl := fun i => bif Nat.beq i 11 then some ⟨[0, 1, 3, 7, 0, 0, 32, 96, 224, 0, 992, 2016, 4064, 0, 0, 32736, 65535, 131071], 131072⟩ else bif Nat.beq i 21 then some ⟨[0, 1, 3, 7, 0, 0, 32, 96, 224, 0, 992, 2016, 4064, 0, 8192, 24576, 57344, 0, 253952, 516096, 1040384, 0, 4186112, 8388576, 16777215, 33554431, 67108863], 67108864⟩ else bif Nat.beq i 22 then some ⟨[0, 1, 3, 7, 0, 0, 32, 96, 224, 0, 992, 2016, 4064, 8160, 16383, 32767, 65535], 65536⟩ else none) Try.func81 (by kernel_rfl) (by have e := F81_eq; exact (congrFun (congrFun (congrFun (congrFun (congrFun (congrFun (e) f0) picks0a) picks0l) picks0c) h) Q).symm ▸ H)

/-- (*headgate/headgateref06.FS).Spoil -/
def F82 (f0 : Option Addr) (dir0 : ByteArray) (name0 : ByteArray) (at_0 : Int) (turn0 : Int) (h : Heap) (Q : Value → Heap → Prop) : Prop :=
  CallsH Try.prog 119 [.pointer f0, .string dir0, .string name0, .string name0] h fun r0 h_0 =>
  ∃ (x0 : Int), ∃ (x1 : Int), r0 = .tuple #[.int .i64 x0, .int .i64 x1] ∧
  (bif (x1 : Int) != 0 then
    Q (.int .i64 x1) h_0
  else
    NN' f0 fun a0 =>
    Ld h_0 (a0.add 5) fun v0 => DSl v0 fun x2a x2l x2c =>
    IdxA x2a x2l x0 4 fun a1 =>
    Ld h_0 (a1.add 1) fun v1 => DSl v1 fun x3a x3l x3c =>
    CallsH Try.prog 114 [.slice x3a x3l x3c, .string name0] h_0 fun r1 h_1 =>
    DI .i64 r1 fun x4 =>
    (bif decide ((x4 : Int) < 0) then
      Q (.int .i64 62) h_1
    else
      (bif decide ((at_0 : Int) < 0) then
        Q (.int .i64 2) h_1
      else
        NN' f0 fun a2 =>
        Ld h_1 (a2.add 4) fun v2 => DSl v2 fun x5a x5l x5c =>
        IdxA x5a x5l x4 2 fun a3 =>
        Ld h_1 (a3.add 0) fun v3 => DS v3 fun x6 =>
        (bif decide ((at_0 : Int) ≥ ((x6 : ByteArray).size : Int)) then
          Q (.int .i64 2) h_1
        else
          NN' f0 fun a4 =>
          Ld h_1 (a4.add 4) fun v4 => DSl v4 fun x7a x7l x7c =>
          IdxA x7a x7l x4 2 fun a5 =>
          Ld h_1 (a5.add 0) fun v5 => DS v5 fun x8 =>
          RunH Try.prog (Go.convert 9 31 (.string x8)) h_1 fun r2 h_2 =>
          DSl r2 fun b0a b0l b0c =>
          IdxA b0a b0l at_0 1 fun a6 =>
          Ld h_2 a6 fun v6 => DI .u8 v6 fun x9 =>
          IdxA b0a b0l at_0 1 fun a7 =>
          StC h_2 (a7.add 0) (.int .u8 (bitsI .xor .u8 x9 turn0)) fun h_4 =>
          NN' f0 fun a8 =>
          Ld h_4 (a8.add 4) fun v7 => DSl v7 fun x10a x10l x10c =>
          ∃ bs0 : ByteArray, BytesIn h_4 b0a b0l bs0 ∧
          IdxA x10a x10l x4 2 fun a9 =>
          StC h_4 ((a9.add 0).add 0) (.string bs0) fun h_6 =>
          Q (.int .i64 0) h_6))))
theorem F82_eq : (fun (f0 : Option Addr) (dir0 : ByteArray) (name0 : ByteArray) (at_0 : Int) (turn0 : Int) (h : Heap) (Q : Value → Heap → Prop) => fnPT Try.prog Try.f82 (fun _ => annNil) (fun _ => []) (fun i => bif Nat.beq i 11 then some ⟨[0, 1, 3, 7, 0, 0, 32, 127, 255, 511], 512⟩ else none) [.pointer f0, .string dir0, .string name0, .int .i64 at_0, .int .u8 turn0] h Q) = F82 := by kernel_rfl
theorem F82_ok {f0 : Option Addr} {dir0 : ByteArray} {name0 : ByteArray} {at_0 : Int} {turn0 : Int} {h : Heap} {Q : Value → Heap → Prop} (H : F82 f0 dir0 name0 at_0 turn0 h Q) : CallsH Try.prog 82 [.pointer f0, .string dir0, .string name0, .int .i64 at_0, .int .u8 turn0] h Q :=
  callsH_of (ann := fun _ => annNil) (tys := fun _ => []) (pl := fun i => bif Nat.beq i 11 then some ⟨[0, 1, 3, 7, 0, 0, 32, 127, 255, 511], 512⟩ else none) Try.func82 (by kernel_rfl) (by have e := F82_eq; exact (congrFun (congrFun (congrFun (congrFun (congrFun (congrFun (congrFun (e) f0) dir0) name0) at_0) turn0) h) Q).symm ▸ H)

/-- (*headgate/headgateref06.FS).Plant -/
def F83 (f0 : Option Addr) (dir0 : ByteArray) (name0 : ByteArray) (b0 : ByteArray) (h : Heap) (Q : Value → Heap → Prop) : Prop :=
  CallsH Try.prog 119 [.pointer f0, .string dir0, .string name0, .string name0] h fun r0 h_0 =>
  ∃ (x0 : Int), ∃ (x1 : Int), r0 = .tuple #[.int .i64 x0, .int .i64 x1] ∧
  (bif (x1 : Int) != 0 then
    Q (.int .i64 x1) h_0
  else
    (bif decide ((((b0 : ByteArray).size : Int) : Int) > 16777216) then
      Q (.int .i64 67) h_0
    else
      NN' f0 fun a0 =>
      Ld h_0 (a0.add 5) fun v0 => DSl v0 fun x2a x2l x2c =>
      IdxA x2a x2l x0 4 fun a1 =>
      Ld h_0 (a1.add 1) fun v1 => DSl v1 fun x3a x3l x3c =>
      CallsH Try.prog 114 [.slice x3a x3l x3c, .string name0] h_0 fun r1 h_1 =>
      DI .i64 r1 fun x4 =>
      (bif decide ((x4 : Int) < 0) then
        NN' f0 fun a2 =>
        Ld h_1 (a2.add 5) fun v2 => DSl v2 fun x5a x5l x5c =>
        IdxA x5a x5l x0 4 fun a3 =>
        Ld h_1 (a3.add 1) fun v3 => DSl v3 fun x6a x6l x6c =>
        (bif decide (((x6l : Int) : Int) ≥ 4096) then
          Q (.int .i64 66) h_1
        else
          NN' f0 fun a4 =>
          Ld h_1 (a4.add 4) fun v4 => DSl v4 fun x7a x7l x7c =>
          Al h_1 (.cells #[.string b0, .int .i64 ((b0 : ByteArray).size : Int)] 156) fun b1 h_2 =>
          RunH Try.prog (Builtin.append_ #[107, 107] 107 #[.slice x7a x7l x7c, .slice (some (Addr.mk b1 0 none)) 1 1]) h_2 fun r3 h_3 =>
          DSl r3 fun x8a x8l x8c =>
          NN' f0 fun a5 =>
          StC h_3 ((a5.add 4).add 0) (.slice x8a x8l x8c) fun h_5 =>
          NN' f0 fun a6 =>
          Ld h_5 (a6.add 5) fun v5 => DSl v5 fun x9a x9l x9c =>
          NN' f0 fun a7 =>
          Ld h_5 (a7.add 5) fun v6 => DSl v6 fun x10a x10l x10c =>
          IdxA x10a x10l x0 4 fun a8 =>
          Ld h_5 (a8.add 1) fun v7 => DSl v7 fun x11a x11l x11c =>
          NN' f0 fun a9 =>
          Ld h_5 (a9.add 4) fun v8 => DSl v8 fun x12a x12l x12c =>
          ∃ r6, (CallsH Try.prog 120 [.slice x11a x11l x11c, .string name0, .int .i64 (IntKind.wrap .i64 ((x12l : Int) - 1))] h_5 fun r5 h_6 =>
          r5 = r6 ∧ h_6 = h_5) ∧
          DSl r6 fun x13a x13l x13c =>
          IdxA x9a x9l x0 4 fun a10 =>
          StC h_5 ((a10.add 1).add 0) (.slice x13a x13l x13c) fun h_8 =>
          NN' f0 fun a11 =>
          Ld h_8 (a11.add 5) fun v9 => DSl v9 fun x14a x14l x14c =>
          NN' f0 fun a12 =>
          Ld h_8 (a12.add 5) fun v10 => DSl v10 fun x15a x15l x15c =>
          IdxA x15a x15l x0 4 fun a13 =>
          Ld h_8 (a13.add 1) fun v11 => DSl v11 fun x16a x16l x16c =>
          IdxA x14a x14l x0 4 fun a14 =>
          StC h_8 ((a14.add 2).add 0) (.slice x16a x16l x16c) fun h_10 =>
          NN' f0 fun a15 =>
          Ld h_10 (a15.add 5) fun v12 => DSl v12 fun x17a x17l x17c =>
          IdxA x17a x17l x0 4 fun a16 =>
          StC h_10 ((a16.add 3).add 0) (.slice none 0 0) fun h_12 =>
          Q (.int .i64 0) h_12)
      else
        NN' f0 fun a17 =>
        Ld h_1 (a17.add 4) fun v13 => DSl v13 fun x18a x18l x18c =>
        Al h_1 (.cells #[.string b0, .int .i64 ((b0 : ByteArray).size : Int)] 156) fun b2 h_13 =>
        RunH Try.prog (Builtin.append_ #[107, 107] 107 #[.slice x18a x18l x18c, .slice (some (Addr.mk b2 0 none)) 1 1]) h_13 fun r11 h_14 =>
        DSl r11 fun x19a x19l x19c =>
        NN' f0 fun a18 =>
        StC h_14 ((a18.add 4).add 0) (.slice x19a x19l x19c) fun h_16 =>
        NN' f0 fun a19 =>
        Ld h_16 (a19.add 5) fun v14 => DSl v14 fun x20a x20l x20c =>
        NN' f0 fun a20 =>
        Ld h_16 (a20.add 5) fun v15 => DSl v15 fun x21a x21l x21c =>
        IdxA x21a x21l x0 4 fun a21 =>
        Ld h_16 (a21.add 1) fun v16 => DSl v16 fun x22a x22l x22c =>
        NN' f0 fun a22 =>
        Ld h_16 (a22.add 4) fun v17 => DSl v17 fun x23a x23l x23c =>
        ∃ r14, (CallsH Try.prog 120 [.slice x22a x22l x22c, .string name0, .int .i64 (IntKind.wrap .i64 ((x23l : Int) - 1))] h_16 fun r13 h_17 =>
        r13 = r14 ∧ h_17 = h_16) ∧
        DSl r14 fun x24a x24l x24c =>
        IdxA x20a x20l x0 4 fun a23 =>
        StC h_16 ((a23.add 1).add 0) (.slice x24a x24l x24c) fun h_19 =>
        NN' f0 fun a24 =>
        Ld h_19 (a24.add 5) fun v18 => DSl v18 fun x25a x25l x25c =>
        NN' f0 fun a25 =>
        Ld h_19 (a25.add 5) fun v19 => DSl v19 fun x26a x26l x26c =>
        IdxA x26a x26l x0 4 fun a26 =>
        Ld h_19 (a26.add 1) fun v20 => DSl v20 fun x27a x27l x27c =>
        IdxA x25a x25l x0 4 fun a27 =>
        StC h_19 ((a27.add 2).add 0) (.slice x27a x27l x27c) fun h_21 =>
        NN' f0 fun a28 =>
        Ld h_21 (a28.add 5) fun v21 => DSl v21 fun x28a x28l x28c =>
        IdxA x28a x28l x0 4 fun a29 =>
        StC h_21 ((a29.add 3).add 0) (.slice none 0 0) fun h_23 =>
        Q (.int .i64 0) h_23)))
theorem F83_eq : (fun (f0 : Option Addr) (dir0 : ByteArray) (name0 : ByteArray) (b0 : ByteArray) (h : Heap) (Q : Value → Heap → Prop) => fnPT Try.prog Try.f83 (fun _ => annNil) (fun _ => []) (fun i => bif Nat.beq i 9 then some ⟨[0, 1, 3, 7, 0, 0, 32, 96, 224, 0, 992, 2016, 4064, 0, 0, 16384, 49152, 114688, 245760, 507904, 1048544, 2097151, 4194303, 8388607], 8388608⟩ else bif Nat.beq i 10 then some ⟨[0, 1, 3, 7, 0, 0, 32, 96, 224, 0, 992, 2016, 4064, 8191, 16383, 32767], 32768⟩ else none) [.pointer f0, .string dir0, .string name0, .string b0] h Q) = F83 := by kernel_rfl
theorem F83_ok {f0 : Option Addr} {dir0 : ByteArray} {name0 : ByteArray} {b0 : ByteArray} {h : Heap} {Q : Value → Heap → Prop} (H : F83 f0 dir0 name0 b0 h Q) : CallsH Try.prog 83 [.pointer f0, .string dir0, .string name0, .string b0] h Q :=
  callsH_of (ann := fun _ => annNil) (tys := fun _ => []) (pl := fun i => bif Nat.beq i 9 then some ⟨[0, 1, 3, 7, 0, 0, 32, 96, 224, 0, 992, 2016, 4064, 0, 0, 16384, 49152, 114688, 245760, 507904, 1048544, 2097151, 4194303, 8388607], 8388608⟩ else bif Nat.beq i 10 then some ⟨[0, 1, 3, 7, 0, 0, 32, 96, 224, 0, 992, 2016, 4064, 8191, 16383, 32767], 32768⟩ else none) Try.func83 (by kernel_rfl) (by have e := F83_eq; exact (congrFun (congrFun (congrFun (congrFun (congrFun (congrFun (e) f0) dir0) name0) b0) h) Q).symm ▸ H)

/-- (*headgate/headgateref06.FS).Used -/
def F84 (f0 : Option Addr) (h : Heap) (Q : Value → Heap → Prop) : Prop :=
  LoopH (fun again0 (s0 : Int × Int) h_0 =>
    NN' f0 fun a0 =>
    Ld h_0 (a0.add 5) fun v0 => DSl v0 fun x0a x0l x0c =>
    (bif decide ((s0.2 : Int) < (x0l : Int)) then
      LoopH (fun again1 (s1 : Int × Int) h_1 =>
        NN' f0 fun a1 =>
        Ld h_1 (a1.add 5) fun v1 => DSl v1 fun x1a x1l x1c =>
        IdxA x1a x1l s0.2 4 fun a2 =>
        Ld h_1 (a2.add 1) fun v2 => DSl v2 fun x2a x2l x2c =>
        (bif decide ((s1.2 : Int) < (x2l : Int)) then
          NN' f0 fun a3 =>
          Ld h_1 (a3.add 4) fun v3 => DSl v3 fun x3a x3l x3c =>
          NN' f0 fun a4 =>
          Ld h_1 (a4.add 5) fun v4 => DSl v4 fun x4a x4l x4c =>
          IdxA x4a x4l s0.2 4 fun a5 =>
          Ld h_1 (a5.add 1) fun v5 => DSl v5 fun x5a x5l x5c =>
          IdxA x5a x5l s1.2 2 fun a6 =>
          Ld h_1 (a6.add 1) fun v6 => DI .i64 v6 fun x6 =>
          IdxA x3a x3l x6 2 fun a7 =>
          Ld h_1 (a7.add 0) fun v7 => DS v7 fun x7 =>
          again1 (IntKind.wrap .i64 (s1.1 + ((x7 : ByteArray).size : Int)), IntKind.wrap .i64 (s1.2 + 1)) h_1
        else
          again0 (s1.1, IntKind.wrap .i64 (s0.2 + 1)) h_1)) (s0.1, 0) h_0
    else
      Q (.int .i64 s0.1) h_0)) (0, 0) h
theorem F84_eq : (fun (f0 : Option Addr) (h : Heap) (Q : Value → Heap → Prop) => fnPT Try.prog Try.f84 (fun i => bif Nat.beq i 0 then annCons 3 (codI .i64) (annOne 4 (codI .i64)) else bif Nat.beq i 2 then annCons 3 (codI .i64) (annOne 5 (codI .i64)) else annNil) (fun _ => []) (fun _ => none) [.pointer f0] h Q) = F84 := by kernel_rfl
theorem F84_ok {f0 : Option Addr} {h : Heap} {Q : Value → Heap → Prop} (H : F84 f0 h Q) : CallsH Try.prog 84 [.pointer f0] h Q :=
  callsH_of (ann := fun i => bif Nat.beq i 0 then annCons 3 (codI .i64) (annOne 4 (codI .i64)) else bif Nat.beq i 2 then annCons 3 (codI .i64) (annOne 5 (codI .i64)) else annNil) (tys := fun _ => []) (pl := fun _ => none) Try.func84 (by kernel_rfl) (by have e := F84_eq; exact (congrFun (congrFun (congrFun (e) f0) h) Q).symm ▸ H)

/-- (*headgate/headgateref06.FS).List -/
def F85 (f0 : Option Addr) (dir0 : ByteArray) (h : Heap) (Q : Value → Heap → Prop) : Prop :=
  CallsH Try.prog 112 [.pointer f0, .string dir0, .string dir0, .string dir0] h fun r0 h_0 =>
  ∃ (x0 : Int), ∃ (x1 : Int), r0 = .tuple #[.int .i64 x0, .int .i64 x1] ∧
  (bif (x1 : Int) != 0 then
    Q (.tuple #[.slice none 0 0, .int .i64 x1]) h_0
  else
    LoopH (fun again0 (s0 : Sl × Int) h_1 =>
      NN' f0 fun a0 =>
      Ld h_1 (a0.add 5) fun v0 => DSl v0 fun x2a x2l x2c =>
      IdxA x2a x2l x0 4 fun a1 =>
      Ld h_1 (a1.add 1) fun v1 => DSl v1 fun x3a x3l x3c =>
      (bif decide ((s0.2 : Int) < (x3l : Int)) then
        NN' f0 fun a2 =>
        Ld h_1 (a2.add 5) fun v2 => DSl v2 fun x4a x4l x4c =>
        IdxA x4a x4l x0 4 fun a3 =>
        Ld h_1 (a3.add 1) fun v3 => DSl v3 fun x5a x5l x5c =>
        IdxA x5a x5l s0.2 2 fun a4 =>
        Ld h_1 (a4.add 0) fun v4 => DS v4 fun x6 =>
        Al h_1 (.cells #[.string x6] 9) fun b0 h_2 =>
        RunH Try.prog (Builtin.append_ #[41, 41] 41 #[.slice s0.1.a s0.1.l s0.1.c, .slice (some (Addr.mk b0 0 none)) 1 1]) h_2 fun r2 h_3 =>
        DSl r2 fun l_0a l_0l l_0c =>
        again0 (⟨l_0a, l_0l, l_0c⟩, IntKind.wrap .i64 (s0.2 + 1)) h_3
      else
        Q (.tuple #[.slice s0.1.a s0.1.l s0.1.c, .int .i64 0]) h_1)) (⟨none, 0, 0⟩, 0) h_0)
theorem F85_eq : (fun (f0 : Option Addr) (dir0 : ByteArray) (h : Heap) (Q : Value → Heap → Prop) => fnPT Try.prog Try.f85 (fun i => bif Nat.beq i 0 then annCons 8 (codSl) (annOne 9 (codI .i64)) else annNil) (fun _ => []) (fun _ => none) [.pointer f0, .string dir0] h Q) = F85 := by kernel_rfl
theorem F85_ok {f0 : Option Addr} {dir0 : ByteArray} {h : Heap} {Q : Value → Heap → Prop} (H : F85 f0 dir0 h Q) : CallsH Try.prog 85 [.pointer f0, .string dir0] h Q :=
  callsH_of (ann := fun i => bif Nat.beq i 0 then annCons 8 (codSl) (annOne 9 (codI .i64)) else annNil) (tys := fun _ => []) (pl := fun _ => none) Try.func85 (by kernel_rfl) (by have e := F85_eq; exact (congrFun (congrFun (congrFun (congrFun (e) f0) dir0) h) Q).symm ▸ H)

/-- (*headgate/headgateref06.FS).Read -/
def F86 (f0 : Option Addr) (dir0 : ByteArray) (name0 : ByteArray) (h : Heap) (Q : Value → Heap → Prop) : Prop :=
  CallsH Try.prog 116 [.pointer f0, .string dir0, .string name0] h fun r0 h_0 =>
  ∃ (x0 : Int), ∃ (x1 : Int), ∃ (x2 : Int), r0 = .tuple #[.int .i64 x0, .int .i64 x1, .int .i64 x2] ∧
  (bif (x2 : Int) != 0 then
    Q (.tuple #[.string .empty, .int .i64 x2]) h_0
  else
    NN' f0 fun a0 =>
    Ld h_0 (a0.add 4) fun v0 => DSl v0 fun x3a x3l x3c =>
    IdxA x3a x3l x1 2 fun a1 =>
    Ld h_0 (a1.add 0) fun v1 => DS v1 fun x4 =>
    Q (.tuple #[.string x4, .int .i64 0]) h_0)
theorem F86_eq : (fun (f0 : Option Addr) (dir0 : ByteArray) (name0 : ByteArray) (h : Heap) (Q : Value → Heap → Prop) => fnPT Try.prog Try.f86 (fun _ => annNil) (fun _ => []) (fun _ => none) [.pointer f0, .string dir0, .string name0] h Q) = F86 := by kernel_rfl
theorem F86_ok {f0 : Option Addr} {dir0 : ByteArray} {name0 : ByteArray} {h : Heap} {Q : Value → Heap → Prop} (H : F86 f0 dir0 name0 h Q) : CallsH Try.prog 86 [.pointer f0, .string dir0, .string name0] h Q :=
  callsH_of (ann := fun _ => annNil) (tys := fun _ => []) (pl := fun _ => none) Try.func86 (by kernel_rfl) (by have e := F86_eq; exact (congrFun (congrFun (congrFun (congrFun (congrFun (e) f0) dir0) name0) h) Q).symm ▸ H)

/-- maps.Keys[map[string]*headgate/simfs.folder,string,*headgate/simfs.folder] -/
def F87 (m0 : Option Nat) (h : Heap) (Q : Value → Heap → Prop) : Prop :=
  Al h (.cells #[.map m0] 81) fun b0 h_0 =>
  Q (.func (.func 121) #[] #[.pointer (some (Addr.mk b0 0 none))]) h_0
theorem F87_eq : (fun (m0 : Option Nat) (h : Heap) (Q : Value → Heap → Prop) => fnPT Try.prog Try.f87 (fun _ => annNil) (fun _ => []) (fun _ => none) [.map m0] h Q) = F87 := by kernel_rfl
theorem F87_ok {m0 : Option Nat} {h : Heap} {Q : Value → Heap → Prop} (H : F87 m0 h Q) : CallsH Try.prog 87 [.map m0] h Q :=
  callsH_of (ann := fun _ => annNil) (tys := fun _ => []) (pl := fun _ => none) Try.func87 (by kernel_rfl) (by have e := F87_eq; exact (congrFun (congrFun (congrFun (e) m0) h) Q).symm ▸ H)

/-- headgate/frame.One -/
def F88 (b0a : Option Addr) (b0l : Nat) (b0c : Nat) (h : Heap) (Q : Value → Heap → Prop) : Prop :=
  CallsH Try.prog 122 [.slice b0a b0l b0c] h fun r0 h_0 =>
  ∃ (x0a : Option Addr), ∃ (x0l : Nat), ∃ (x0c : Nat), ∃ (x1 : Bool), r0 = .tuple #[.slice x0a x0l x0c, .bool x1] ∧
  (bif !x1 then
    Q (.tuple #[.slice none 0 0, .int .i64 52]) h_0
  else
    (bif ((IntKind.wrap .i64 ((x0l : Int) + 8)) : Int) != (b0l : Int) then
      Q (.tuple #[.slice none 0 0, .int .i64 52]) h_0
    else
      RunH Try.prog (Builtin.append_ #[31, 31] 31 #[.slice none 0 0, .slice x0a x0l x0c]) h_0 fun r1 h_1 =>
      DSl r1 fun x2a x2l x2c =>
      Q (.tuple #[.slice x2a x2l x2c, .int .i64 0]) h_1))
theorem F88_eq : (fun (b0a : Option Addr) (b0l : Nat) (b0c : Nat) (h : Heap) (Q : Value → Heap → Prop) => fnPT Try.prog Try.f88 (fun _ => annNil) (fun _ => []) (fun _ => none) [.slice b0a b0l b0c] h Q) = F88 := by kernel_rfl
theorem F88_ok {b0a : Option Addr} {b0l : Nat} {b0c : Nat} {h : Heap} {Q : Value → Heap → Prop} (H : F88 b0a b0l b0c h Q) : CallsH Try.prog 88 [.slice b0a b0l b0c] h Q :=
  callsH_of (ann := fun _ => annNil) (tys := fun _ => []) (pl := fun _ => none) Try.func88 (by kernel_rfl) (by have e := F88_eq; exact (congrFun (congrFun (congrFun (congrFun (congrFun (e) b0a) b0l) b0c) h) Q).symm ▸ H)

/-- headgate/place.unfinished -/
def F89 (l_0a : Option Addr) (l_0l : Nat) (l_0c : Nat) (h : Heap) (Q : Value → Heap → Prop) : Prop :=
  Al h (.cells #[.slice l_0a l_0l l_0c] 41) fun b0 h_0 =>
  Q (.func (.func 123) #[] #[.pointer (some (Addr.mk b0 0 none))]) h_0
theorem F89_eq : (fun (l_0a : Option Addr) (l_0l : Nat) (l_0c : Nat) (h : Heap) (Q : Value → Heap → Prop) => fnPT Try.prog Try.f89 (fun _ => annNil) (fun _ => []) (fun _ => none) [.slice l_0a l_0l l_0c] h Q) = F89 := by kernel_rfl
theorem F89_ok {l_0a : Option Addr} {l_0l : Nat} {l_0c : Nat} {h : Heap} {Q : Value → Heap → Prop} (H : F89 l_0a l_0l l_0c h Q) : CallsH Try.prog 89 [.slice l_0a l_0l l_0c] h Q :=
  callsH_of (ann := fun _ => annNil) (tys := fun _ => []) (pl := fun _ => none) Try.func89 (by kernel_rfl) (by have e := F89_eq; exact (congrFun (congrFun (congrFun (congrFun (congrFun (e) l_0a) l_0l) l_0c) h) Q).symm ▸ H)

/-- headgate/frame.Pack -/
def F90 (b0a : Option Addr) (b0l : Nat) (b0c : Nat) (h : Heap) (Q : Value → Heap → Prop) : Prop :=
  (bif decide (((b0l : Int) : Int) > 16777208) then
    Q (.tuple #[.slice none 0 0, .int .i64 50]) h
  else
    CallsH Try.prog 125 [.int .u32 (IntKind.wrap .u32 (b0l : Int))] h fun r0 h_0 =>
    DSl r0 fun n0a n0l n0c =>
    CallsH Try.prog 127 [.slice n0a n0l n0c] h_0 fun r1 h_1 =>
    DI .u32 r1 fun x0 =>
    CallsH Try.prog 126 [.int .u32 x0, .slice b0a b0l b0c] h_1 fun r2 h_2 =>
    DI .u32 r2 fun x1 =>
    CallsH Try.prog 125 [.int .u32 x1] h_2 fun r3 h_3 =>
    DSl r3 fun x2a x2l x2c =>
    RunH Try.prog (Builtin.append_ #[31, 31] 31 #[.slice n0a n0l n0c, .slice x2a x2l x2c]) h_3 fun r4 h_4 =>
    DSl r4 fun x3a x3l x3c =>
    RunH Try.prog (Builtin.append_ #[31, 31] 31 #[.slice x3a x3l x3c, .slice b0a b0l b0c]) h_4 fun r5 h_5 =>
    DSl r5 fun x4a x4l x4c =>
    Q (.tuple #[.slice x4a x4l x4c, .int .i64 0]) h_5)
theorem F90_eq : (fun (b0a : Option Addr) (b0l : Nat) (b0c : Nat) (h : Heap) (Q : Value → Heap → Prop) => fnPT Try.prog Try.f90 (fun _ => annNil) (fun _ => []) (fun _ => none) [.slice b0a b0l b0c] h Q) = F90 := by kernel_rfl
theorem F90_ok {b0a : Option Addr} {b0l : Nat} {b0c : Nat} {h : Heap} {Q : Value → Heap → Prop} (H : F90 b0a b0l b0c h Q) : CallsH Try.prog 90 [.slice b0a b0l b0c] h Q :=
  callsH_of (ann := fun _ => annNil) (tys := fun _ => []) (pl := fun _ => none) Try.func90 (by kernel_rfl) (by have e := F90_eq; exact (congrFun (congrFun (congrFun (congrFun (congrFun (e) b0a) b0l) b0c) h) Q).symm ▸ H)

/-- headgate/place.Raw$1 -/
def F91 (c0 : Addr) (c1 : Addr) (c2 : Addr) (h : Heap) (Q : Value → Heap → Prop) : Prop :=
  Ld h c0 fun v0 => DP v0 fun x0 =>
  Ld h c1 fun v1 => DS v1 fun x1 =>
  Ld h c2 fun v2 => DS v2 fun x2 =>
  CallsH Try.prog 17 [.pointer x0, .string x1, .string x2] h fun r0 h_0 =>
  DI .i64 r0 fun x3 =>
  Q (.int .i64 x3) h_0
theorem F91_eq : (fun (c0 : Addr) (c1 : Addr) (c2 : Addr) (h : Heap) (Q : Value → Heap → Prop) => fnPT Try.prog Try.f91 (fun _ => annNil) (fun _ => []) (fun _ => none) [.pointer (some c0), .pointer (some c1), .pointer (some c2)] h Q) = F91 := by kernel_rfl
theorem F91_ok {c0 : Addr} {c1 : Addr} {c2 : Addr} {h : Heap} {Q : Value → Heap → Prop} (H : F91 c0 c1 c2 h Q) : CallsH Try.prog 91 [.pointer (some c0), .pointer (some c1), .pointer (some c2)] h Q :=
  callsH_of (ann := fun _ => annNil) (tys := fun _ => []) (pl := fun _ => none) Try.func91 (by kernel_rfl) (by have e := F91_eq; exact (congrFun (congrFun (congrFun (congrFun (congrFun (e) c0) c1) c2) h) Q).symm ▸ H)

/-- headgate/place.Raw$2 -/
def F92 (c0 : Addr) (c1 : Addr) (c2 : Addr) (c3 : Addr) (h : Heap) (Q : Value → Heap → Prop) : Prop :=
  Ld h c0 fun v0 => DP v0 fun x0 =>
  Ld h c1 fun v1 => DS v1 fun x1 =>
  Ld h c2 fun v2 => DS v2 fun x2 =>
  Ld h c3 fun v3 => DSl v3 fun x3a x3l x3c =>
  CallsH Try.prog 18 [.pointer x0, .string x1, .string x2, .slice x3a x3l x3c] h fun r0 h_0 =>
  DI .i64 r0 fun x4 =>
  Q (.int .i64 x4) h_0
theorem F92_eq : (fun (c0 : Addr) (c1 : Addr) (c2 : Addr) (c3 : Addr) (h : Heap) (Q : Value → Heap → Prop) => fnPT Try.prog Try.f92 (fun _ => annNil) (fun _ => []) (fun _ => none) [.pointer (some c0), .pointer (some c1), .pointer (some c2), .pointer (some c3)] h Q) = F92 := by kernel_rfl
theorem F92_ok {c0 : Addr} {c1 : Addr} {c2 : Addr} {c3 : Addr} {h : Heap} {Q : Value → Heap → Prop} (H : F92 c0 c1 c2 c3 h Q) : CallsH Try.prog 92 [.pointer (some c0), .pointer (some c1), .pointer (some c2), .pointer (some c3)] h Q :=
  callsH_of (ann := fun _ => annNil) (tys := fun _ => []) (pl := fun _ => none) Try.func92 (by kernel_rfl) (by have e := F92_eq; exact (congrFun (congrFun (congrFun (congrFun (congrFun (congrFun (e) c0) c1) c2) c3) h) Q).symm ▸ H)

/-- headgate/place.Raw$3 -/
def F93 (c0 : Addr) (c1 : Addr) (c2 : Addr) (h : Heap) (Q : Value → Heap → Prop) : Prop :=
  Ld h c0 fun v0 => DP v0 fun x0 =>
  Ld h c1 fun v1 => DS v1 fun x1 =>
  Ld h c2 fun v2 => DS v2 fun x2 =>
  CallsH Try.prog 19 [.pointer x0, .string x1, .string x2] h fun r0 h_0 =>
  DI .i64 r0 fun x3 =>
  Q (.int .i64 x3) h_0
theorem F93_eq : (fun (c0 : Addr) (c1 : Addr) (c2 : Addr) (h : Heap) (Q : Value → Heap → Prop) => fnPT Try.prog Try.f93 (fun _ => annNil) (fun _ => []) (fun _ => none) [.pointer (some c0), .pointer (some c1), .pointer (some c2)] h Q) = F93 := by kernel_rfl
theorem F93_ok {c0 : Addr} {c1 : Addr} {c2 : Addr} {h : Heap} {Q : Value → Heap → Prop} (H : F93 c0 c1 c2 h Q) : CallsH Try.prog 93 [.pointer (some c0), .pointer (some c1), .pointer (some c2)] h Q :=
  callsH_of (ann := fun _ => annNil) (tys := fun _ => []) (pl := fun _ => none) Try.func93 (by kernel_rfl) (by have e := F93_eq; exact (congrFun (congrFun (congrFun (congrFun (congrFun (e) c0) c1) c2) h) Q).symm ▸ H)

/-- headgate/place.Raw$4 -/
def F94 (c0 : Addr) (c1 : Addr) (c2 : Addr) (c3 : Addr) (h : Heap) (Q : Value → Heap → Prop) : Prop :=
  Ld h c0 fun v0 => DP v0 fun x0 =>
  Ld h c1 fun v1 => DS v1 fun x1 =>
  Ld h c2 fun v2 => DS v2 fun x2 =>
  Ld h c3 fun v3 => DS v3 fun x3 =>
  CallsH Try.prog 22 [.pointer x0, .string x1, .string x2, .string x3] h fun r0 h_0 =>
  DI .i64 r0 fun x4 =>
  Q (.int .i64 x4) h_0
theorem F94_eq : (fun (c0 : Addr) (c1 : Addr) (c2 : Addr) (c3 : Addr) (h : Heap) (Q : Value → Heap → Prop) => fnPT Try.prog Try.f94 (fun _ => annNil) (fun _ => []) (fun _ => none) [.pointer (some c0), .pointer (some c1), .pointer (some c2), .pointer (some c3)] h Q) = F94 := by kernel_rfl
theorem F94_ok {c0 : Addr} {c1 : Addr} {c2 : Addr} {c3 : Addr} {h : Heap} {Q : Value → Heap → Prop} (H : F94 c0 c1 c2 c3 h Q) : CallsH Try.prog 94 [.pointer (some c0), .pointer (some c1), .pointer (some c2), .pointer (some c3)] h Q :=
  callsH_of (ann := fun _ => annNil) (tys := fun _ => []) (pl := fun _ => none) Try.func94 (by kernel_rfl) (by have e := F94_eq; exact (congrFun (congrFun (congrFun (congrFun (congrFun (congrFun (e) c0) c1) c2) c3) h) Q).symm ▸ H)

/-- headgate/place.Raw$5 -/
def F95 (c0 : Addr) (c1 : Addr) (h : Heap) (Q : Value → Heap → Prop) : Prop :=
  Ld h c0 fun v0 => DP v0 fun x0 =>
  Ld h c1 fun v1 => DS v1 fun x1 =>
  CallsH Try.prog 20 [.pointer x0, .string x1] h fun r0 h_0 =>
  DI .i64 r0 fun x2 =>
  Q (.int .i64 x2) h_0
theorem F95_eq : (fun (c0 : Addr) (c1 : Addr) (h : Heap) (Q : Value → Heap → Prop) => fnPT Try.prog Try.f95 (fun _ => annNil) (fun _ => []) (fun _ => none) [.pointer (some c0), .pointer (some c1)] h Q) = F95 := by kernel_rfl
theorem F95_ok {c0 : Addr} {c1 : Addr} {h : Heap} {Q : Value → Heap → Prop} (H : F95 c0 c1 h Q) : CallsH Try.prog 95 [.pointer (some c0), .pointer (some c1)] h Q :=
  callsH_of (ann := fun _ => annNil) (tys := fun _ => []) (pl := fun _ => none) Try.func95 (by kernel_rfl) (by have e := F95_eq; exact (congrFun (congrFun (congrFun (congrFun (e) c0) c1) h) Q).symm ▸ H)

/-- slices.Contains[[]string,string] -/
def F96 (s0a : Option Addr) (s0l : Nat) (s0c : Nat) (v0 : ByteArray) (h : Heap) (Q : Value → Heap → Prop) : Prop :=
  CallsH Try.prog 128 [.slice s0a s0l s0c, .string v0] h fun r0 h_0 =>
  DI .i64 r0 fun x0 =>
  Q (.bool (decide ((x0 : Int) ≥ 0))) h_0
theorem F96_eq : (fun (s0a : Option Addr) (s0l : Nat) (s0c : Nat) (v0 : ByteArray) (h : Heap) (Q : Value → Heap → Prop) => fnPT Try.prog Try.f96 (fun _ => annNil) (fun _ => []) (fun _ => none) [.slice s0a s0l s0c, .string v0] h Q) = F96 := by kernel_rfl
theorem F96_ok {s0a : Option Addr} {s0l : Nat} {s0c : Nat} {v0 : ByteArray} {h : Heap} {Q : Value → Heap → Prop} (H : F96 s0a s0l s0c v0 h Q) : CallsH Try.prog 96 [.slice s0a s0l s0c, .string v0] h Q :=
  callsH_of (ann := fun _ => annNil) (tys := fun _ => []) (pl := fun _ => none) Try.func96 (by kernel_rfl) (by have e := F96_eq; exact (congrFun (congrFun (congrFun (congrFun (congrFun (congrFun (e) s0a) s0l) s0c) v0) h) Q).symm ▸ H)

/-- headgate/place.Raw$6 -/
def F97 (c0 : Addr) (c1 : Addr) (c2 : Addr) (h : Heap) (Q : Value → Heap → Prop) : Prop :=
  Ld h c0 fun v0 => DP v0 fun x0 =>
  Ld h c1 fun v1 => DS v1 fun x1 =>
  Ld h c2 fun v2 => DS v2 fun x2 =>
  CallsH Try.prog 29 [.pointer x0, .string x1, .string x2] h fun r0 h_0 =>
  DI .i64 r0 fun x3 =>
  Q (.int .i64 x3) h_0
theorem F97_eq : (fun (c0 : Addr) (c1 : Addr) (c2 : Addr) (h : Heap) (Q : Value → Heap → Prop) => fnPT Try.prog Try.f97 (fun _ => annNil) (fun _ => []) (fun _ => none) [.pointer (some c0), .pointer (some c1), .pointer (some c2)] h Q) = F97 := by kernel_rfl
theorem F97_ok {c0 : Addr} {c1 : Addr} {c2 : Addr} {h : Heap} {Q : Value → Heap → Prop} (H : F97 c0 c1 c2 h Q) : CallsH Try.prog 97 [.pointer (some c0), .pointer (some c1), .pointer (some c2)] h Q :=
  callsH_of (ann := fun _ => annNil) (tys := fun _ => []) (pl := fun _ => none) Try.func97 (by kernel_rfl) (by have e := F97_eq; exact (congrFun (congrFun (congrFun (congrFun (congrFun (e) c0) c1) c2) h) Q).symm ▸ H)

/-- strings.IndexByte -/
def F98 (s0 : ByteArray) (c0 : Int) (h : Heap) (Q : Value → Heap → Prop) : Prop :=
  CallsH Try.prog 129 [.string s0, .int .u8 c0] h fun r0 h_0 =>
  DI .i64 r0 fun x0 =>
  Q (.int .i64 x0) h_0
theorem F98_eq : (fun (s0 : ByteArray) (c0 : Int) (h : Heap) (Q : Value → Heap → Prop) => fnPT Try.prog Try.f98 (fun _ => annNil) (fun _ => []) (fun _ => none) [.string s0, .int .u8 c0] h Q) = F98 := by kernel_rfl
theorem F98_ok {s0 : ByteArray} {c0 : Int} {h : Heap} {Q : Value → Heap → Prop} (H : F98 s0 c0 h Q) : CallsH Try.prog 98 [.string s0, .int .u8 c0] h Q :=
  callsH_of (ann := fun _ => annNil) (tys := fun _ => []) (pl := fun _ => none) Try.func98 (by kernel_rfl) (by have e := F98_eq; exact (congrFun (congrFun (congrFun (congrFun (e) s0) c0) h) Q).symm ▸ H)

/-- (*headgate/segment.Log).load -/
def F99 (l_0 : Option Addr) (all0a : Option Addr) (all0l : Nat) (all0c : Nat) (h : Heap) (Q : Value → Heap → Prop) : Prop :=
  LoopH (fun again0 (s0 : Int) h_0 =>
    (bif decide ((s0 : Int) < (all0l : Int)) then
      IdxA all0a all0l s0 1 fun a0 =>
      Ld h_0 a0 fun v0 => DI .i64 v0 fun n0 =>
      NN' l_0 fun a1 =>
      Ld h_0 (a1.add 4) fun v1 => DI .i64 v1 fun x0 =>
      (bif (n0 : Int) != x0 then
        SlV all0a all0c 1 s0 (all0l : Int) (all0c : Int) fun s1a s1l s1c =>
        CallsH Try.prog 130 [.pointer l_0, .slice s1a s1l s1c] h_0 fun r0 h_1 =>
        DI .i64 r0 fun x1 =>
        Q (.int .i64 x1) h_1
      else
        NN' l_0 fun a2 =>
        Ld h_0 (a2.add 0) fun v2 => DP v2 fun x2 =>
        NN' l_0 fun a3 =>
        Ld h_0 (a3.add 1) fun v3 => DS v3 fun x3 =>
        ∃ r2, (CallsH Try.prog 103 [.int .i64 n0] h_0 fun r1 h_2 =>
        r1 = r2 ∧ h_2 = h_0) ∧
        DS r2 fun x4 =>
        ∃ r4, (CallsH Try.prog 25 [.pointer x2, .string x3, .string x4] h_0 fun r3 h_3 =>
        r3 = r4 ∧ h_3 = h_0) ∧
        ∃ (x5a : Option Addr), ∃ (x5l : Nat), ∃ (x5c : Nat), ∃ (x6 : Int), r4 = .tuple #[.slice x5a x5l x5c, .int .i64 x6] ∧
        (bif (x6 : Int) != 0 then
          Q (.int .i64 x6) h_0
        else
          CallsH Try.prog 106 [.slice x5a x5l x5c] h_0 fun r5 h_4 =>
          ∃ (x7a : Option Addr), ∃ (x7l : Nat), ∃ (x7c : Nat), ∃ (x8 : Int), r5 = .tuple #[.slice x7a x7l x7c, .int .i64 x8] ∧
          NN' l_0 fun a4 =>
          Ld h_4 (a4.add 3) fun v4 => DSl v4 fun x9a x9l x9c =>
          Al h_4 (.cells #[.int .i64 n0, .int .i64 (x7l : Int), .int .i64 x8] 141) fun b0 h_5 =>
          RunH Try.prog (Builtin.append_ #[132, 132] 132 #[.slice x9a x9l x9c, .slice (some (Addr.mk b0 0 none)) 1 1]) h_5 fun r7 h_6 =>
          DSl r7 fun x10a x10l x10c =>
          NN' l_0 fun a5 =>
          StC h_6 ((a5.add 3).add 0) (.slice x10a x10l x10c) fun h_8 =>
          NN' l_0 fun a6 =>
          Ld h_8 (a6.add 4) fun v5 => DI .i64 v5 fun x11 =>
          NN' l_0 fun a7 =>
          StC h_8 ((a7.add 4).add 0) (.int .i64 (IntKind.wrap .i64 (x11 + (x7l : Int)))) fun h_10 =>
          (bif decide ((x8 : Int) < (x5l : Int)) then
            NN' l_0 fun a8 =>
            Ld h_10 (a8.add 0) fun v6 => DP v6 fun x12 =>
            NN' l_0 fun a9 =>
            Ld h_10 (a9.add 1) fun v7 => DS v7 fun x13 =>
            ∃ r11, (CallsH Try.prog 103 [.int .i64 n0] h_10 fun r10 h_11 =>
            r10 = r11 ∧ h_11 = h_10) ∧
            DS r11 fun x14 =>
            SlV x5a x5c 1 0 x8 (x5c : Int) fun s2a s2l s2c =>
            ∃ r13, (CallsH Try.prog 44 [.pointer x12, .string x13, .string x14, .slice s2a s2l s2c] h_10 fun r12 h_12 =>
            r12 = r13 ∧ h_12 = h_10) ∧
            DI .i64 r13 fun e0 =>
            (bif (e0 : Int) != 0 then
              Q (.int .i64 e0) h_10
            else
              SlV all0a all0c 1 (IntKind.wrap .i64 (s0 + 1)) (all0l : Int) (all0c : Int) fun s3a s3l s3c =>
              CallsH Try.prog 130 [.pointer l_0, .slice s3a s3l s3c] h_10 fun r14 h_13 =>
              DI .i64 r14 fun x15 =>
              Q (.int .i64 x15) h_13)
          else
            again0 (IntKind.wrap .i64 (s0 + 1)) h_10)))
    else
      Q (.int .i64 0) h_0)) 0 h
theorem F99_eq : (fun (l_0 : Option Addr) (all0a : Option Addr) (all0l : Nat) (all0c : Nat) (h : Heap) (Q : Value → Heap → Prop) => fnPT Try.prog Try.f99 (fun i => bif Nat.beq i 0 then annOne 14 (codI .i64) else annNil) (fun _ => []) (fun _ => none) [.pointer l_0, .slice all0a all0l all0c] h Q) = F99 := by kernel_rfl
theorem F99_ok {l_0 : Option Addr} {all0a : Option Addr} {all0l : Nat} {all0c : Nat} {h : Heap} {Q : Value → Heap → Prop} (H : F99 l_0 all0a all0l all0c h Q) : CallsH Try.prog 99 [.pointer l_0, .slice all0a all0l all0c] h Q :=
  callsH_of (ann := fun i => bif Nat.beq i 0 then annOne 14 (codI .i64) else annNil) (tys := fun _ => []) (pl := fun _ => none) Try.func99 (by kernel_rfl) (by have e := F99_eq; exact (congrFun (congrFun (congrFun (congrFun (congrFun (congrFun (e) l_0) all0a) all0l) all0c) h) Q).symm ▸ H)

/-- headgate/segment.bases -/
def F100 (names0a : Option Addr) (names0l : Nat) (names0c : Nat) (h : Heap) (Q : Value → Heap → Prop) : Prop :=
  LoopH (fun again0 (s0 : Sl × Int) h_0 =>
    (bif decide ((s0.2 : Int) < (names0l : Int)) then
      IdxA names0a names0l s0.2 1 fun a0 =>
      Ld h_0 a0 fun v0 => DS v0 fun s1 =>
      CallsH Try.prog 131 [.string s1, .string ⟨#[115, 46]⟩] h_0 fun r0 h_1 =>
      ∃ (x0 : ByteArray), ∃ (x1 : Bool), r0 = .tuple #[.string x0, .bool x1] ∧
      (bif x1 then
        CallsH Try.prog 45 [.string x0] h_1 fun r1 h_2 =>
        ∃ (x2 : Int), ∃ (x3 : Bool), r1 = .tuple #[.int .i64 x2, .bool x3] ∧
        (bif x3 then
          Al h_2 (.cells #[.int .i64 x2] 2) fun b0 h_3 =>
          RunH Try.prog (Builtin.append_ #[136, 136] 136 #[.slice s0.1.a s0.1.l s0.1.c, .slice (some (Addr.mk b0 0 none)) 1 1]) h_3 fun r3 h_4 =>
          DSl r3 fun l_0a l_0l l_0c =>
          again0 (⟨l_0a, l_0l, l_0c⟩, IntKind.wrap .i64 (s0.2 + 1)) h_4
        else
          again0 (⟨s0.1.a, s0.1.l, s0.1.c⟩, IntKind.wrap .i64 (s0.2 + 1)) h_2)
      else
        again0 (⟨s0.1.a, s0.1.l, s0.1.c⟩, IntKind.wrap .i64 (s0.2 + 1)) h_1)
    else
      Q (.slice s0.1.a s0.1.l s0.1.c) h_0)) (⟨none, 0, 0⟩, 0) h
theorem F100_eq : (fun (names0a : Option Addr) (names0l : Nat) (names0c : Nat) (h : Heap) (Q : Value → Heap → Prop) => fnPT Try.prog Try.f100 (fun i => bif Nat.beq i 0 then annCons 3 (codSl) (annOne 12 (codI .i64)) else annNil) (fun _ => []) (fun _ => none) [.slice names0a names0l names0c] h Q) = F100 := by kernel_rfl
theorem F100_ok {names0a : Option Addr} {names0l : Nat} {names0c : Nat} {h : Heap} {Q : Value → Heap → Prop} (H : F100 names0a names0l names0c h Q) : CallsH Try.prog 100 [.slice names0a names0l names0c] h Q :=
  callsH_of (ann := fun i => bif Nat.beq i 0 then annCons 3 (codSl) (annOne 12 (codI .i64)) else annNil) (tys := fun _ => []) (pl := fun _ => none) Try.func100 (by kernel_rfl) (by have e := F100_eq; exact (congrFun (congrFun (congrFun (congrFun (congrFun (e) names0a) names0l) names0c) h) Q).symm ▸ H)

end Go.Proofs.Yticjjdhaikbdaaa
