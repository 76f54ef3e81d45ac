/- The texts over heaps of functions of the program: written by a program of this claim's writer (decomp.py); Lean checks each against the code. -/
import Derived.Test.YtibdiikcigokjaaGreatDoorKfFwA
import Derived.Test.YtibdiikcigokjaaGreatDoorProg
namespace Go.Proofs.YtibdiikcigokjaaGreatDoor
open Go Go.RowKit
set_option linter.unusedVariables false
set_option maxRecDepth 100000

/-- headgate/place.Get -/
def F34 (f0 : Option Addr) (dir0 : ByteArray) (name0 : ByteArray) (h : Heap) (Q : Value → Heap → Prop) : Prop :=
 CallsH Tryz.prog 103 [.pointer f0, .string dir0, .string name0] h fun r0 h_0 =>
 ∃ (x0a : Option Addr), ∃ (x0l : Nat), ∃ (x0c : Nat), ∃ (x1 : Int), r0 = .tuple #[.slice x0a x0l x0c, .int .i64 x1] ∧
 (bif (x1 : Int) != 0 then
  Q (.tuple #[.slice none 0 0, .int .i64 x1]) h_0
 else
  CallsH Tryz.prog 114 [.slice x0a x0l x0c] h_0 fun r1 h_1 =>
  ∃ (x2a : Option Addr), ∃ (x2l : Nat), ∃ (x2c : Nat), ∃ (x3 : Int), r1 = .tuple #[.slice x2a x2l x2c, .int .i64 x3] ∧
  (bif (x3 : Int) != 0 then
   Q (.tuple #[.slice none 0 0, .int .i64 70]) h_1
  else
   Q (.tuple #[.slice x2a x2l x2c, .int .i64 0]) h_1))
theorem F34_eq : (fun (f0 : Option Addr) (dir0 : ByteArray) (name0 : ByteArray) (h : Heap) (Q : Value → Heap → Prop) => fnPT Tryz.prog Tryz.f34 (fun _ => annNil) (fun _ => []) (fun _ => none) [.pointer f0, .string dir0, .string name0] h Q) = F34 := by kernel_rfl
theorem F34_ok {f0 : Option Addr} {dir0 : ByteArray} {name0 : ByteArray} {h : Heap} {Q : Value → Heap → Prop} (H : F34 f0 dir0 name0 h Q) : CallsH Tryz.prog 34 [.pointer f0, .string dir0, .string name0] h Q :=
 callsH_of (ann := fun _ => annNil) (tys := fun _ => []) (pl := fun _ => none) Tryz.func34 (by kernel_rfl) (by have e := F34_eq; exact (congrFun (congrFun (congrFun (congrFun (congrFun (e) f0) dir0) name0) h) Q).symm ▸ H)

/-- headgate/place.Clean -/
def F196 (f0 : Option Addr) (dir0 : ByteArray) (h : Heap) (Q : Value → Heap → Prop) : Prop :=
 Al h (.cells #[.pointer f0] 39) fun b0 h_0 =>
 Al h_0 (.cells #[.string dir0] 9) fun b1 h_1 =>
 Al h_1 (.cells #[.int .i64 0] 3) fun b2 h_2 =>
 Al h_2 (.cells #[.int .i64 0] 25) fun b3 h_3 =>
 Ld h_3 (Addr.mk b0 0 none) fun v0 => DP v0 fun x0 =>
 Ld h_3 (Addr.mk b1 0 none) fun v1 => DS v1 fun x1 =>
 CallsH Tryz.prog 16 [.pointer x0, .string x1] h_3 fun r4 h_4 =>
 ∃ (x2a : Option Addr), ∃ (x2l : Nat), ∃ (x2c : Nat), ∃ (x3 : Int), r4 = .tuple #[.slice x2a x2l x2c, .int .i64 x3] ∧
 (bif (x3 : Int) != 0 then
  StC h_4 ((Addr.mk b2 0 none).add 0) (.int .i64 0) fun h_6 =>
  StC h_6 ((Addr.mk b3 0 none).add 0) (.int .i64 x3) fun h_8 =>
  Ld h_8 (Addr.mk b2 0 none) fun v2 => DI .i64 v2 fun res0 =>
  Ld h_8 (Addr.mk b3 0 none) fun v3 => DI .i64 v3 fun res1 =>
  Q (.tuple #[.int .i64 res0, .int .i64 res1]) h_8
 else
  Al h_4 (.cells #[.int .i64 0] 3) fun b4 h_9 =>
  StC h_9 ((Addr.mk b4 0 none).add 0) (.int .i64 0) fun h_11 =>
  CallsH Tryz.prog 234 [.slice x2a x2l x2c] h_11 fun r9 h_12 =>
  ∃ (x4 : Value), r9 = x4 ∧
  RangeFn Tryz.prog x4 1 none h_12 (fun l_0 rec_0 args0 h_13 Q_0 =>
   ∃ (y0 : ByteArray), args0 = [.string y0] ∧
   h_13[l_0]? = some (rec_0 .ready none) ∧
   Ld (h_13.setIfInBounds l_0 (rec_0 .busy none)) (Addr.mk b0 0 none) fun v4 => DP v4 fun x5 =>
   Ld (h_13.setIfInBounds l_0 (rec_0 .busy none)) (Addr.mk b1 0 none) fun v5 => DS v5 fun x6 =>
   CallsH Tryz.prog 84 [.pointer x5, .string x6, .string y0] (h_13.setIfInBounds l_0 (rec_0 .busy none)) fun r10 h_14 =>
   DI .i64 r10 fun e0 =>
   (bif (e0 : Int) != 0 then
    StC h_14 ((Addr.mk b2 0 none).add 0) (.int .i64 0) fun h_16 =>
    StC h_16 ((Addr.mk b3 0 none).add 0) (.int .i64 e0) fun h_18 =>
    h_18[l_0]? = some (rec_0 .busy none) ∧ Q_0 (.bool false) (h_18.setIfInBounds l_0 (rec_0 .done (some .ret)))
   else
    Ld h_14 (Addr.mk b4 0 none) fun v6 => DI .i64 v6 fun x7 =>
    StC h_14 ((Addr.mk b4 0 none).add 0) (.int .i64 (IntKind.wrap .i64 (x7 + 1))) fun h_20 =>
    h_20[l_0]? = some (rec_0 .busy none) ∧ Q_0 (.bool true) (h_20.setIfInBounds l_0 (rec_0 .ready none)))) (fun pend0 h_21 =>
   (pend0 = none ∨ pend0 = some (.ret)) ∧
   (pend0 = none →
    Ld h_21 (Addr.mk b4 0 none) fun v7 => DI .i64 v7 fun x8 =>
    (bif decide ((x8 : Int) > 0) then
     Ld h_21 (Addr.mk b0 0 none) fun v8 => DP v8 fun x9 =>
     Ld h_21 (Addr.mk b1 0 none) fun v9 => DS v9 fun x10 =>
     CallsH Tryz.prog 82 [.pointer x9, .string x10] h_21 fun r14 h_22 =>
     DI .i64 r14 fun e1 =>
     (bif (e1 : Int) != 0 then
      StC h_22 ((Addr.mk b2 0 none).add 0) (.int .i64 0) fun h_24 =>
      StC h_24 ((Addr.mk b3 0 none).add 0) (.int .i64 e1) fun h_26 =>
      h_26[h_12.size]? = some (.deferred (some [])) ∧
      Ld (h_26.setIfInBounds h_12.size (.deferred none)) (Addr.mk b2 0 none) fun v10 => DI .i64 v10 fun res2 =>
      Ld (h_26.setIfInBounds h_12.size (.deferred none)) (Addr.mk b3 0 none) fun v11 => DI .i64 v11 fun res3 =>
      Q (.tuple #[.int .i64 res2, .int .i64 res3]) (h_26.setIfInBounds h_12.size (.deferred none))
     else
      Ld h_22 (Addr.mk b4 0 none) fun v12 => DI .i64 v12 fun x11 =>
      StC h_22 ((Addr.mk b2 0 none).add 0) (.int .i64 x11) fun h_28 =>
      StC h_28 ((Addr.mk b3 0 none).add 0) (.int .i64 0) fun h_30 =>
      h_30[h_12.size]? = some (.deferred (some [])) ∧
      Ld (h_30.setIfInBounds h_12.size (.deferred none)) (Addr.mk b2 0 none) fun v13 => DI .i64 v13 fun res4 =>
      Ld (h_30.setIfInBounds h_12.size (.deferred none)) (Addr.mk b3 0 none) fun v14 => DI .i64 v14 fun res5 =>
      Q (.tuple #[.int .i64 res4, .int .i64 res5]) (h_30.setIfInBounds h_12.size (.deferred none)))
    else
     Ld h_21 (Addr.mk b4 0 none) fun v15 => DI .i64 v15 fun x12 =>
     StC h_21 ((Addr.mk b2 0 none).add 0) (.int .i64 x12) fun h_32 =>
     StC h_32 ((Addr.mk b3 0 none).add 0) (.int .i64 0) fun h_34 =>
     h_34[h_12.size]? = some (.deferred (some [])) ∧
     Ld (h_34.setIfInBounds h_12.size (.deferred none)) (Addr.mk b2 0 none) fun v16 => DI .i64 v16 fun res6 =>
     Ld (h_34.setIfInBounds h_12.size (.deferred none)) (Addr.mk b3 0 none) fun v17 => DI .i64 v17 fun res7 =>
     Q (.tuple #[.int .i64 res6, .int .i64 res7]) (h_34.setIfInBounds h_12.size (.deferred none)))) ∧
   (pend0 = some (.ret) →
    h_21[h_12.size]? = some (.deferred (some [])) ∧
    Ld (h_21.setIfInBounds h_12.size (.deferred none)) (Addr.mk b2 0 none) fun v18 => DI .i64 v18 fun res8 =>
    Ld (h_21.setIfInBounds h_12.size (.deferred none)) (Addr.mk b3 0 none) fun v19 => DI .i64 v19 fun res9 =>
    Q (.tuple #[.int .i64 res8, .int .i64 res9]) (h_21.setIfInBounds h_12.size (.deferred none)))))
theorem F196_eq : (fun (f0 : Option Addr) (dir0 : ByteArray) (h : Heap) (Q : Value → Heap → Prop) => fnPT Tryz.prog Tryz.f196 (fun _ => annNil) (fun i => bif Nat.beq i 0 then [9] else []) (fun _ => none) [.pointer f0, .string dir0] h Q) = F196 := by kernel_rfl
theorem F196_ok {f0 : Option Addr} {dir0 : ByteArray} {h : Heap} {Q : Value → Heap → Prop} (H : F196 f0 dir0 h Q) : CallsH Tryz.prog 196 [.pointer f0, .string dir0] h Q :=
 callsH_of (ann := fun _ => annNil) (tys := fun i => bif Nat.beq i 0 then [9] else []) (pl := fun _ => none) Tryz.func196 (by kernel_rfl) (by have e := F196_eq; exact (congrFun (congrFun (congrFun (congrFun (e) f0) dir0) h) Q).symm ▸ H)

/-- headgate/place.Ready -/
def F127 (f0 : Option Addr) (dir0 : ByteArray) (h : Heap) (Q : Value → Heap → Prop) : Prop :=
 CallsH Tryz.prog 16 [.pointer f0, .string dir0] h fun r0 h_0 =>
 ∃ (x0a : Option Addr), ∃ (x0l : Nat), ∃ (x0c : Nat), ∃ (x1 : Int), r0 = .tuple #[.slice x0a x0l x0c, .int .i64 x1] ∧
 (bif (x1 : Int) == 61 then
  CallsH Tryz.prog 78 [.pointer f0, .string dir0] h_0 fun r1 h_1 =>
  DI .i64 r1 fun e0 =>
  (bif (e0 : Int) != 0 then
   Q (.tuple #[.slice none 0 0, .int .i64 e0]) h_1
  else
   CallsH Tryz.prog 196 [.pointer f0, .string dir0] h_1 fun r2 h_2 =>
   ∃ (x2 : Int), ∃ (x3 : Int), r2 = .tuple #[.int .i64 x2, .int .i64 x3] ∧
   (bif (x3 : Int) != 0 then
    Q (.tuple #[.slice none 0 0, .int .i64 x3]) h_2
   else
    CallsH Tryz.prog 16 [.pointer f0, .string dir0] h_2 fun r3 h_3 =>
    ∃ (x4a : Option Addr), ∃ (x4l : Nat), ∃ (x4c : Nat), ∃ (x5 : Int), r3 = .tuple #[.slice x4a x4l x4c, .int .i64 x5] ∧
    Q (.tuple #[.slice x4a x4l x4c, .int .i64 x5]) h_3))
 else
  CallsH Tryz.prog 196 [.pointer f0, .string dir0] h_0 fun r4 h_4 =>
  ∃ (x6 : Int), ∃ (x7 : Int), r4 = .tuple #[.int .i64 x6, .int .i64 x7] ∧
  (bif (x7 : Int) != 0 then
   Q (.tuple #[.slice none 0 0, .int .i64 x7]) h_4
  else
   CallsH Tryz.prog 16 [.pointer f0, .string dir0] h_4 fun r5 h_5 =>
   ∃ (x8a : Option Addr), ∃ (x8l : Nat), ∃ (x8c : Nat), ∃ (x9 : Int), r5 = .tuple #[.slice x8a x8l x8c, .int .i64 x9] ∧
   Q (.tuple #[.slice x8a x8l x8c, .int .i64 x9]) h_5))
theorem F127_eq : (fun (f0 : Option Addr) (dir0 : ByteArray) (h : Heap) (Q : Value → Heap → Prop) => fnPT Tryz.prog Tryz.f127 (fun _ => annNil) (fun _ => []) (fun _ => none) [.pointer f0, .string dir0] h Q) = F127 := by kernel_rfl
theorem F127_ok {f0 : Option Addr} {dir0 : ByteArray} {h : Heap} {Q : Value → Heap → Prop} (H : F127 f0 dir0 h Q) : CallsH Tryz.prog 127 [.pointer f0, .string dir0] h Q :=
 callsH_of (ann := fun _ => annNil) (tys := fun _ => []) (pl := fun _ => none) Tryz.func127 (by kernel_rfl) (by have e := F127_eq; exact (congrFun (congrFun (congrFun (congrFun (e) f0) dir0) h) Q).symm ▸ H)

/-- headgate/place.Put -/
def F45 (f0 : Option Addr) (dir0 : ByteArray) (name0 : ByteArray) (b0a : Option Addr) (b0l : Nat) (b0c : Nat) (h : Heap) (Q : Value → Heap → Prop) : Prop :=
 (bif (f0).isNone then
  Q (.int .i64 1) h
 else
  CallsH Tryz.prog 139 [.slice b0a b0l b0c] h fun r0 h_0 =>
  ∃ (x0a : Option Addr), ∃ (x0l : Nat), ∃ (x0c : Nat), ∃ (x1 : Int), r0 = .tuple #[.slice x0a x0l x0c, .int .i64 x1] ∧
  (bif (x1 : Int) != 0 then
   Q (.int .i64 x1) h_0
  else
   CallsH Tryz.prog 140 [.pointer f0, .string dir0, .string name0, .slice x0a x0l x0c] h_0 fun r1 h_1 =>
   DI .i64 r1 fun x2 =>
   Q (.int .i64 x2) h_1))
theorem F45_eq : (fun (f0 : Option Addr) (dir0 : ByteArray) (name0 : ByteArray) (b0a : Option Addr) (b0l : Nat) (b0c : Nat) (h : Heap) (Q : Value → Heap → Prop) => fnPT Tryz.prog Tryz.f45 (fun _ => annNil) (fun _ => []) (fun _ => none) [.pointer f0, .string dir0, .string name0, .slice b0a b0l b0c] h Q) = F45 := by kernel_rfl
theorem F45_ok {f0 : Option Addr} {dir0 : ByteArray} {name0 : ByteArray} {b0a : Option Addr} {b0l : Nat} {b0c : Nat} {h : Heap} {Q : Value → Heap → Prop} (H : F45 f0 dir0 name0 b0a b0l b0c h Q) : CallsH Tryz.prog 45 [.pointer f0, .string dir0, .string name0, .slice b0a b0l b0c] h Q :=
 callsH_of (ann := fun _ => annNil) (tys := fun _ => []) (pl := fun _ => none) Tryz.func45 (by kernel_rfl) (by have e := F45_eq; exact (congrFun (congrFun (congrFun (congrFun (congrFun (congrFun (congrFun (congrFun (e) f0) dir0) name0) b0a) b0l) b0c) h) Q).symm ▸ H)

/-- headgate/place.Raw -/
def F140 (f0 : Option Addr) (dir0 : ByteArray) (name0 : ByteArray) (b0a : Option Addr) (b0l : Nat) (b0c : Nat) (h : Heap) (Q : Value → Heap → Prop) : Prop :=
 Al h (.cells #[.pointer f0] 39) fun b1 h_0 =>
 Al h_0 (.cells #[.string dir0] 9) fun b2 h_1 =>
 Al h_1 (.cells #[.string name0] 9) fun b3 h_2 =>
 Al h_2 (.cells #[.slice b0a b0l b0c] 85) fun b4 h_3 =>
 Ld h_3 (Addr.mk b1 0 none) fun v0 => DP v0 fun x0 =>
 (bif (x0).isNone then
  Q (.int .i64 1) h_3
 else
  Ld h_3 (Addr.mk b3 0 none) fun v1 => DS v1 fun x1 =>
  (bif decide ((((x1 : ByteArray).size : Int) : Int) > 28) then
   Q (.int .i64 65) h_3
  else
   Ld h_3 (Addr.mk b3 0 none) fun v2 => DS v2 fun x2 =>
   (⟨#[116, 109, 112, 46]⟩ : ByteArray).size + (x2 : ByteArray).size ≤ 9223372036854775807 ∧
   Al h_3 (.cells #[.string .empty] 9) fun b5 h_4 =>
   StC h_4 ((Addr.mk b5 0 none).add 0) (.string (⟨#[116, 109, 112, 46]⟩ ++ x2)) fun h_6 =>
   Ld h_6 (Addr.mk b1 0 none) fun v3 => DP v3 fun x3 =>
   Ld h_6 (Addr.mk b2 0 none) fun v4 => DS v4 fun x4 =>
   CallsH Tryz.prog 16 [.pointer x3, .string x4] h_6 fun r6 h_7 =>
   ∃ (x5a : Option Addr), ∃ (x5l : Nat), ∃ (x5c : Nat), ∃ (x6 : Int), r6 = .tuple #[.slice x5a x5l x5c, .int .i64 x6] ∧
   (bif (x6 : Int) != 0 then
    Q (.int .i64 x6) h_7
   else
    Al h_7 (.cells #[.func (.func 207) #[] #[.pointer (some (Addr.mk b1 0 none)), .pointer (some (Addr.mk b2 0 none)), .pointer (some (Addr.mk b5 0 none))], .func (.func 208) #[] #[.pointer (some (Addr.mk b1 0 none)), .pointer (some (Addr.mk b2 0 none)), .pointer (some (Addr.mk b5 0 none)), .pointer (some (Addr.mk b4 0 none))], .func (.func 209) #[] #[.pointer (some (Addr.mk b1 0 none)), .pointer (some (Addr.mk b2 0 none)), .pointer (some (Addr.mk b5 0 none))], .func (.func 210) #[] #[.pointer (some (Addr.mk b1 0 none)), .pointer (some (Addr.mk b2 0 none)), .pointer (some (Addr.mk b5 0 none)), .pointer (some (Addr.mk b3 0 none))], .func (.func 211) #[] #[.pointer (some (Addr.mk b1 0 none)), .pointer (some (Addr.mk b2 0 none))]] 35) fun b6 h_8 =>
    Ld h_8 (Addr.mk b5 0 none) fun v5 => DS v5 fun x7 =>
    CallsH Tryz.prog 212 [.slice x5a x5l x5c, .string x7] h_8 fun r8 h_9 =>
    DB r8 fun x8 =>
    (bif x8 then
     Al h_9 (.cells #[.func (.func 213) #[] #[.pointer (some (Addr.mk b1 0 none)), .pointer (some (Addr.mk b2 0 none)), .pointer (some (Addr.mk b5 0 none))]] 35) fun b7 h_10 =>
     RunH Tryz.prog (Builtin.append_ #[306, 306] 306 #[.slice (some (Addr.mk b7 0 none)) 1 1, .slice (some (Addr.mk b6 0 none)) 5 5]) h_10 fun r10 h_11 =>
     DSl r10 fun steps0a steps0l steps0c =>
     LoopH (fun again0 (s0 : Int) h_12 =>
      (bif decide ((s0 : Int) < (steps0l : Int)) then
       IdxA steps0a steps0l s0 1 fun a0 =>
       Ld h_12 a0 fun v6 => ∃ (s1 : Value), v6 = s1 ∧
       CallV Tryz.prog s1 [] h_12 fun r11 h_13 =>
       DI .i64 r11 fun e0 =>
       (bif (e0 : Int) != 0 then
        Q (.int .i64 e0) h_13
       else
        again0 (IntKind.wrap .i64 (s0 + 1)) h_13)
      else
       Q (.int .i64 0) h_12)) 0 h_11
    else
     LoopH (fun again1 (s2 : Int) h_14 =>
      (bif decide ((s2 : Int) < (5 : Int)) then
       IdxA (some (Addr.mk b6 0 none)) 5 s2 1 fun a1 =>
       Ld h_14 a1 fun v7 => ∃ (s3 : Value), v7 = s3 ∧
       CallV Tryz.prog s3 [] h_14 fun r12 h_15 =>
       DI .i64 r12 fun e1 =>
       (bif (e1 : Int) != 0 then
        Q (.int .i64 e1) h_15
       else
        again1 (IntKind.wrap .i64 (s2 + 1)) h_15)
      else
       Q (.int .i64 0) h_14)) 0 h_9))))
theorem F140_eq : (fun (f0 : Option Addr) (dir0 : ByteArray) (name0 : ByteArray) (b0a : Option Addr) (b0l : Nat) (b0c : Nat) (h : Heap) (Q : Value → Heap → Prop) => fnPT Tryz.prog Tryz.f140 (fun i => bif Nat.beq i 0 then annOne 47 (codI .i64) else annNil) (fun _ => []) (fun _ => none) [.pointer f0, .string dir0, .string name0, .slice b0a b0l b0c] h Q) = F140 := by kernel_rfl
theorem F140_ok {f0 : Option Addr} {dir0 : ByteArray} {name0 : ByteArray} {b0a : Option Addr} {b0l : Nat} {b0c : Nat} {h : Heap} {Q : Value → Heap → Prop} (H : F140 f0 dir0 name0 b0a b0l b0c h Q) : CallsH Tryz.prog 140 [.pointer f0, .string dir0, .string name0, .slice b0a b0l b0c] h Q :=
 callsH_of (ann := fun i => bif Nat.beq i 0 then annOne 47 (codI .i64) else annNil) (tys := fun _ => []) (pl := fun _ => none) Tryz.func140 (by kernel_rfl) (by have e := F140_eq; exact (congrFun (congrFun (congrFun (congrFun (congrFun (congrFun (congrFun (congrFun (e) f0) dir0) name0) b0a) b0l) b0c) h) Q).symm ▸ H)

/-- headgate/place.Unhex -/
def F37 (s0 : ByteArray) (h : Heap) (Q : Value → Heap → Prop) : Prop :=
 RunH Tryz.prog (Go.convert 9 85 (.string s0)) h fun r0 h_0 =>
 DSl r0 fun x0a x0l x0c =>
 LoopH (fun again0 (s1 : Int × Int) h_1 =>
  (bif decide ((s1.2 : Int) < (x0l : Int)) then
   IdxA x0a x0l s1.2 1 fun a0 =>
   Ld h_1 a0 fun v0 => DI .u8 v0 fun c0 =>
   CallsH Tryz.prog 116 [.string ⟨#[48, 49, 50, 51, 52, 53, 54, 55, 56, 57, 97, 98, 99, 100, 101, 102]⟩, .int .u8 c0] h_1 fun r1 h_2 =>
   DI .i64 r1 fun k0 =>
   (bif decide ((k0 : Int) < 0) then
    Q (.tuple #[.int .i64 0, .bool false]) h_2
   else
    (bif (((s0 : ByteArray).size : Int) : Int) != 16 then
     Q (.tuple #[.int .i64 0, .bool false]) h_2
    else
     0 ≤ (4 : Int) ∧
     again0 (bitsI .or .u64 (shlI .u64 s1.1 4) (IntKind.wrap .u64 k0), IntKind.wrap .i64 (s1.2 + 1)) h_2))
  else
   (bif (((s0 : ByteArray).size : Int) : Int) != 16 then
    Q (.tuple #[.int .i64 0, .bool false]) h_1
   else
    0 ≤ (63 : Int) ∧
    (bif ((shrI .u64 s1.1 63) : Int) == 1 then
     Q (.tuple #[.int .i64 0, .bool false]) h_1
    else
     Q (.tuple #[.int .i64 (IntKind.wrap .i64 s1.1), .bool true]) h_1)))) (0, 0) h_0
theorem F37_eq : (fun (s0 : ByteArray) (h : Heap) (Q : Value → Heap → Prop) => fnPT Tryz.prog Tryz.f37 (fun i => bif Nat.beq i 0 then annCons 4 (codI .u64) (annOne 11 (codI .i64)) else annNil) (fun _ => []) (fun _ => none) [.string s0] h Q) = F37 := by kernel_rfl
theorem F37_ok {s0 : ByteArray} {h : Heap} {Q : Value → Heap → Prop} (H : F37 s0 h Q) : CallsH Tryz.prog 37 [.string s0] h Q :=
 callsH_of (ann := fun i => bif Nat.beq i 0 then annCons 4 (codI .u64) (annOne 11 (codI .i64)) else annNil) (tys := fun _ => []) (pl := fun _ => none) Tryz.func37 (by kernel_rfl) (by have e := F37_eq; exact (congrFun (congrFun (congrFun (e) s0) h) Q).symm ▸ H)

/-- (*headgate/simfs.FS).ready -/
def F50 (f0 : Option Addr) (dir0 : ByteArray) (of_0a : Option Addr) (of_0l : Nat) (of_0c : Nat) (h : Heap) (Q : Value → Heap → Prop) : Prop :=
 (bif (f0).isNone then
  Q (.tuple #[.pointer none, .int .i64 1]) h
 else
  NN' f0 fun a0 =>
  Ld h (a0.add 4) fun v0 => DB v0 fun x0 =>
  (bif x0 then
   Q (.tuple #[.pointer none, .int .i64 60]) h
  else
   CallsH Tryz.prog 144 [.pointer f0, .string dir0, .slice of_0a of_0l of_0c] h fun r0 h_0 =>
   ∃ (x1 : Option Addr), ∃ (x2 : Int), r0 = .tuple #[.pointer x1, .int .i64 x2] ∧
   Q (.tuple #[.pointer x1, .int .i64 x2]) h_0))
theorem F50_eq : (fun (f0 : Option Addr) (dir0 : ByteArray) (of_0a : Option Addr) (of_0l : Nat) (of_0c : Nat) (h : Heap) (Q : Value → Heap → Prop) => fnPT Tryz.prog Tryz.f50 (fun _ => annNil) (fun _ => []) (fun _ => none) [.pointer f0, .string dir0, .slice of_0a of_0l of_0c] h Q) = F50 := by kernel_rfl
theorem F50_ok {f0 : Option Addr} {dir0 : ByteArray} {of_0a : Option Addr} {of_0l : Nat} {of_0c : Nat} {h : Heap} {Q : Value → Heap → Prop} (H : F50 f0 dir0 of_0a of_0l of_0c h Q) : CallsH Tryz.prog 50 [.pointer f0, .string dir0, .slice of_0a of_0l of_0c] h Q :=
 callsH_of (ann := fun _ => annNil) (tys := fun _ => []) (pl := fun _ => none) Tryz.func50 (by kernel_rfl) (by have e := F50_eq; exact (congrFun (congrFun (congrFun (congrFun (congrFun (congrFun (congrFun (e) f0) dir0) of_0a) of_0l) of_0c) h) Q).symm ▸ H)

/-- (*headgate/simfs.FS).step -/
def F170 (f0 : Option Addr) (h : Heap) (Q : Value → Heap → Prop) : Prop :=
 NN' f0 fun a0 =>
 Ld h (a0.add 3) fun v0 => DI .i64 v0 fun x0 =>
 (bif (x0 : Int) == 0 then
  NN' f0 fun a1 =>
  StC h ((a1.add 4).add 0) (.bool true) fun h_1 =>
  Q (.int .i64 60) h_1
 else
  NN' f0 fun a2 =>
  Ld h (a2.add 3) fun v1 => DI .i64 v1 fun x1 =>
  NN' f0 fun a3 =>
  StC h ((a3.add 3).add 0) (.int .i64 (if ((-1) : Int) > (IntKind.wrap .i64 (x1 - 1)) then (-1) else (IntKind.wrap .i64 (x1 - 1)))) fun h_3 =>
  NN' f0 fun a4 =>
  Ld h_3 (a4.add 2) fun v2 => DI .i64 v2 fun x2 =>
  NN' f0 fun a5 =>
  StC h_3 ((a5.add 2).add 0) (.int .i64 (IntKind.wrap .i64 (x2 + 1))) fun h_5 =>
  Q (.int .i64 0) h_5)
theorem F170_eq : (fun (f0 : Option Addr) (h : Heap) (Q : Value → Heap → Prop) => fnPT Tryz.prog Tryz.f170 (fun _ => annNil) (fun _ => []) (fun _ => none) [.pointer f0] h Q) = F170 := by kernel_rfl
theorem F170_ok {f0 : Option Addr} {h : Heap} {Q : Value → Heap → Prop} (H : F170 f0 h Q) : CallsH Tryz.prog 170 [.pointer f0] h Q :=
 callsH_of (ann := fun _ => annNil) (tys := fun _ => []) (pl := fun _ => none) Tryz.func170 (by kernel_rfl) (by have e := F170_eq; exact (congrFun (congrFun (congrFun (e) f0) h) Q).symm ▸ H)

/-- (*headgate/simfs.FS).change -/
def F171 (f0 : Option Addr) (d0 : Option Addr) (do_0f : Fn) (do_0p : Array Value) (do_0c : Array Value) (h : Heap) (Q : Value → Heap → Prop) : Prop :=
 CallsH Tryz.prog 170 [.pointer f0] h fun r0 h_0 =>
 DI .i64 r0 fun e0 =>
 (bif (e0 : Int) != 0 then
  Q (.int .i64 e0) h_0
 else
  NN' d0 fun a0 =>
  Ld h_0 (a0.add 0) fun v0 => DM v0 fun x0 =>
  CallV Tryz.prog (.func do_0f do_0p do_0c) [.map x0] h_0 fun r1 h_1 =>
  r1 = .tuple #[] ∧
  NN' d0 fun a1 =>
  Ld h_1 (a1.add 2) fun v1 => DSl v1 fun x1a x1l x1c =>
  Al h_1 (.cells #[.func do_0f do_0p do_0c] 138) fun b0 h_2 =>
  RunH Tryz.prog (Builtin.append_ #[132, 132] 132 #[.slice x1a x1l x1c, .slice (some (Addr.mk b0 0 none)) 1 1]) h_2 fun r3 h_3 =>
  DSl r3 fun x2a x2l x2c =>
  NN' d0 fun a2 =>
  StC h_3 ((a2.add 2).add 0) (.slice x2a x2l x2c) fun h_5 =>
  CallsH Tryz.prog 57 [.pointer f0] h_5 fun r5 h_6 =>
  r5 = .tuple #[] ∧
  Q (.int .i64 0) h_6)
theorem F171_eq : (fun (f0 : Option Addr) (d0 : Option Addr) (do_0f : Fn) (do_0p : Array Value) (do_0c : Array Value) (h : Heap) (Q : Value → Heap → Prop) => fnPT Tryz.prog Tryz.f171 (fun _ => annNil) (fun _ => []) (fun _ => none) [.pointer f0, .pointer d0, .func do_0f do_0p do_0c] h Q) = F171 := by kernel_rfl
theorem F171_ok {f0 : Option Addr} {d0 : Option Addr} {do_0f : Fn} {do_0p : Array Value} {do_0c : Array Value} {h : Heap} {Q : Value → Heap → Prop} (H : F171 f0 d0 do_0f do_0p do_0c h Q) : CallsH Tryz.prog 171 [.pointer f0, .pointer d0, .func do_0f do_0p do_0c] h Q :=
 callsH_of (ann := fun _ => annNil) (tys := fun _ => []) (pl := fun _ => none) Tryz.func171 (by kernel_rfl) (by have e := F171_eq; exact (congrFun (congrFun (congrFun (congrFun (congrFun (congrFun (congrFun (e) f0) d0) do_0f) do_0p) do_0c) h) Q).symm ▸ H)

/-- (*headgate/simfs.FS).Create$1 -/
def F172 (n0 : Option Nat) (c0 : Addr) (c1 : Addr) (h : Heap) (Q : Value → Heap → Prop) : Prop :=
 Ld h c1 fun v0 => DS v0 fun x0 =>
 Ld h c0 fun v1 => DP v1 fun x1 =>
 RunU Tryz.prog (Instr.mapUpdate 130 (.map n0) (.string x0) (.pointer x1)) h fun h_0 =>
 Q (.tuple #[]) h_0
theorem F172_eq : (fun (n0 : Option Nat) (c0 : Addr) (c1 : Addr) (h : Heap) (Q : Value → Heap → Prop) => fnPT Tryz.prog Tryz.f172 (fun _ => annNil) (fun _ => []) (fun _ => none) [.map n0, .pointer (some c0), .pointer (some c1)] h Q) = F172 := by kernel_rfl
theorem F172_ok {n0 : Option Nat} {c0 : Addr} {c1 : Addr} {h : Heap} {Q : Value → Heap → Prop} (H : F172 n0 c0 c1 h Q) : CallsH Tryz.prog 172 [.map n0, .pointer (some c0), .pointer (some c1)] h Q :=
 callsH_of (ann := fun _ => annNil) (tys := fun _ => []) (pl := fun _ => none) Tryz.func172 (by kernel_rfl) (by have e := F172_eq; exact (congrFun (congrFun (congrFun (congrFun (congrFun (e) n0) c0) c1) h) Q).symm ▸ H)

/-- (*headgate/simfs.FS).entry -/
def F173 (f0 : Option Addr) (dir0 : ByteArray) (name0 : ByteArray) (h : Heap) (Q : Value → Heap → Prop) : Prop :=
 Al h (.cells #[.string name0] 9) fun b0 h_0 =>
 CallsH Tryz.prog 50 [.pointer f0, .string dir0, .slice (some (Addr.mk b0 0 none)) 1 1] h_0 fun r1 h_1 =>
 ∃ (x0 : Option Addr), ∃ (x1 : Int), r1 = .tuple #[.pointer x0, .int .i64 x1] ∧
 (bif (x1 : Int) == 0 then
  NN' x0 fun a0 =>
  Ld h_1 (a0.add 0) fun v0 => DM v0 fun x2 =>
  ∃ es0, mapEs h_1 x2 es0 ∧ ∃ f1, Instr.findNow .string (.string name0) (es0 : Array MapEntry).toList 0 = some f1 ∧
  DP ((Option.map (fun x => x.2) f1).getD (.pointer none)) fun x3 =>
  (bif (x3).isNone then
   (bif (62 : Int) != 0 then
    Q (.tuple #[.pointer none, .pointer none, .int .i64 62]) h_1
   else
    NN' x0 fun a1 =>
    Ld h_1 (a1.add 0) fun v1 => DM v1 fun x4 =>
    ∃ es1, mapEs h_1 x4 es1 ∧ ∃ f2, Instr.findNow .string (.string name0) (es1 : Array MapEntry).toList 0 = some f2 ∧
    DP ((Option.map (fun x => x.2) f2).getD (.pointer none)) fun x5 =>
    Q (.tuple #[.pointer x0, .pointer x5, .int .i64 0]) h_1)
  else
   (bif (x1 : Int) != 0 then
    Q (.tuple #[.pointer none, .pointer none, .int .i64 x1]) h_1
   else
    NN' x0 fun a2 =>
    Ld h_1 (a2.add 0) fun v2 => DM v2 fun x6 =>
    ∃ es2, mapEs h_1 x6 es2 ∧ ∃ f3, Instr.findNow .string (.string name0) (es2 : Array MapEntry).toList 0 = some f3 ∧
    DP ((Option.map (fun x => x.2) f3).getD (.pointer none)) fun x7 =>
    Q (.tuple #[.pointer x0, .pointer x7, .int .i64 0]) h_1))
 else
  (bif (x1 : Int) != 0 then
   Q (.tuple #[.pointer none, .pointer none, .int .i64 x1]) h_1
  else
   NN' x0 fun a3 =>
   Ld h_1 (a3.add 0) fun v3 => DM v3 fun x8 =>
   ∃ es3, mapEs h_1 x8 es3 ∧ ∃ f4, Instr.findNow .string (.string name0) (es3 : Array MapEntry).toList 0 = some f4 ∧
   DP ((Option.map (fun x => x.2) f4).getD (.pointer none)) fun x9 =>
   Q (.tuple #[.pointer x0, .pointer x9, .int .i64 0]) h_1))
theorem F173_eq : (fun (f0 : Option Addr) (dir0 : ByteArray) (name0 : ByteArray) (h : Heap) (Q : Value → Heap → Prop) => fnPT Tryz.prog Tryz.f173 (fun _ => annNil) (fun _ => []) (fun _ => none) [.pointer f0, .string dir0, .string name0] h Q) = F173 := by kernel_rfl
theorem F173_ok {f0 : Option Addr} {dir0 : ByteArray} {name0 : ByteArray} {h : Heap} {Q : Value → Heap → Prop} (H : F173 f0 dir0 name0 h Q) : CallsH Tryz.prog 173 [.pointer f0, .string dir0, .string name0] h Q :=
 callsH_of (ann := fun _ => annNil) (tys := fun _ => []) (pl := fun _ => none) Tryz.func173 (by kernel_rfl) (by have e := F173_eq; exact (congrFun (congrFun (congrFun (congrFun (congrFun (e) f0) dir0) name0) h) Q).symm ▸ H)

/-- (*headgate/simfs.FS).Rename$1 -/
def F174 (n0 : Option Nat) (c0 : Addr) (c1 : Addr) (h : Heap) (Q : Value → Heap → Prop) : Prop :=
 Ld h c0 fun v0 => DS v0 fun x0 =>
 ∃ es0, mapEs h n0 es0 ∧ ∃ f0, Instr.findNow .string (.string x0) (es0 : Array MapEntry).toList 0 = some f0 ∧
 DP ((Option.map (fun x => x.2) f0).getD (.pointer none)) fun x1 =>
 Ld h c0 fun v1 => DS v1 fun x2 =>
 RunH Tryz.prog (Builtin.delete_ #[130, 9] 0 #[.map n0, .string x2]) h fun r0 h_0 =>
 Ld h_0 c1 fun v2 => DS v2 fun x3 =>
 RunU Tryz.prog (Instr.mapUpdate 130 (.map n0) (.string x3) (.pointer x1)) h_0 fun h_1 =>
 Q (.tuple #[]) h_1
theorem F174_eq : (fun (n0 : Option Nat) (c0 : Addr) (c1 : Addr) (h : Heap) (Q : Value → Heap → Prop) => fnPT Tryz.prog Tryz.f174 (fun _ => annNil) (fun _ => []) (fun _ => none) [.map n0, .pointer (some c0), .pointer (some c1)] h Q) = F174 := by kernel_rfl
theorem F174_ok {n0 : Option Nat} {c0 : Addr} {c1 : Addr} {h : Heap} {Q : Value → Heap → Prop} (H : F174 n0 c0 c1 h Q) : CallsH Tryz.prog 174 [.map n0, .pointer (some c0), .pointer (some c1)] h Q :=
 callsH_of (ann := fun _ => annNil) (tys := fun _ => []) (pl := fun _ => none) Tryz.func174 (by kernel_rfl) (by have e := F174_eq; exact (congrFun (congrFun (congrFun (congrFun (congrFun (e) n0) c0) c1) h) Q).symm ▸ H)

/-- slices.Sorted[string] -/
def F51 (seq0 : Value) (h : Heap) (Q : Value → Heap → Prop) : Prop :=
 CallsH Tryz.prog 145 [seq0] h fun r0 h_0 =>
 DSl r0 fun s0a s0l s0c =>
 CallsH Tryz.prog 146 [.slice s0a s0l s0c] h_0 fun r1 h_1 =>
 r1 = .tuple #[] ∧
 Q (.slice s0a s0l s0c) h_1
theorem F51_eq : (fun (seq0 : Value) (h : Heap) (Q : Value → Heap → Prop) => fnPT Tryz.prog Tryz.f51 (fun _ => annNil) (fun _ => []) (fun _ => none) [seq0] h Q) = F51 := by kernel_rfl
theorem F51_ok {seq0 : Value} {h : Heap} {Q : Value → Heap → Prop} (H : F51 seq0 h Q) : CallsH Tryz.prog 51 [seq0] h Q :=
 callsH_of (ann := fun _ => annNil) (tys := fun _ => []) (pl := fun _ => none) Tryz.func51 (by kernel_rfl) (by have e := F51_eq; exact (congrFun (congrFun (congrFun (e) seq0) h) Q).symm ▸ H)

/-- maps.Keys[headgate/simfs.names,string,*headgate/simfs.file] -/
def F52 (m0 : Option Nat) (h : Heap) (Q : Value → Heap → Prop) : Prop :=
 Al h (.cells #[.map m0] 130) fun b0 h_0 =>
 Q (.func (.func 147) #[] #[.pointer (some (Addr.mk b0 0 none))]) h_0
theorem F52_eq : (fun (m0 : Option Nat) (h : Heap) (Q : Value → Heap → Prop) => fnPT Tryz.prog Tryz.f52 (fun _ => annNil) (fun _ => []) (fun _ => none) [.map m0] h Q) = F52 := by kernel_rfl
theorem F52_ok {m0 : Option Nat} {h : Heap} {Q : Value → Heap → Prop} (H : F52 m0 h Q) : CallsH Tryz.prog 52 [.map m0] h Q :=
 callsH_of (ann := fun _ => annNil) (tys := fun _ => []) (pl := fun _ => none) Tryz.func52 (by kernel_rfl) (by have e := F52_eq; exact (congrFun (congrFun (congrFun (e) m0) h) Q).symm ▸ H)

/-- (*headgate/simfs.FS).count -/
def F57 (f0 : Option Addr) (h : Heap) (Q : Value → Heap → Prop) : Prop :=
 NN' f0 fun a0 =>
 StC h ((a0.add 1).add 0) (.int .i64 0) fun h_1 =>
 NN' f0 fun a1 =>
 Ld h_1 (a1.add 5) fun v0 => DM v0 fun x0 =>
 RunH Tryz.prog (Instr.range 118 (.map x0)) h_1 fun r1 h_2 =>
 DP r1 fun p0 =>
 LoopH (fun again0 (s0 : Unit) h_3 =>
  RunH Tryz.prog (Instr.next (.pointer p0) false 0) h_3 fun r2 h_4 =>
  (
   r2 = .tuple #[.bool false] ∧
   Q (.tuple #[]) h_4) ∨ (
   ∃ (k0 x1 : Value), r2 = .tuple #[.bool true, k0, x1] ∧
   RunH Tryz.prog (Instr.entry (.pointer p0)) h_4 fun r3 h_5 =>
   ∃ (x2 : Value), ∃ (x3 : Option Addr), r3 = .tuple #[x2, .pointer x3] ∧
   NN' x3 fun a2 =>
   Ld h_5 (a2.add 0) fun v1 => DM v1 fun x4 =>
   RunH Tryz.prog (Instr.range 130 (.map x4)) h_5 fun r4 h_6 =>
   DP r4 fun p1 =>
   LoopH (fun again1 (s1 : Unit) h_7 =>
    RunH Tryz.prog (Instr.next (.pointer p1) false 0) h_7 fun r5 h_8 =>
    (
     r5 = .tuple #[.bool false] ∧
     again0 () h_8) ∨ (
     ∃ (k1 x5 : Value), r5 = .tuple #[.bool true, k1, x5] ∧
     RunH Tryz.prog (Instr.entry (.pointer p1)) h_8 fun r6 h_9 =>
     ∃ (x6 : Value), ∃ (x7 : Option Addr), r6 = .tuple #[x6, .pointer x7] ∧
     NN' f0 fun a3 =>
     Ld h_9 (a3.add 1) fun v2 => DI .i64 v2 fun x8 =>
     NN' x7 fun a4 =>
     Ld h_9 (a4.add 0) fun v3 => DSl v3 fun x9a x9l x9c =>
     NN' f0 fun a5 =>
     StC h_9 ((a5.add 1).add 0) (.int .i64 (IntKind.wrap .i64 (x8 + (x9l : Int)))) fun h_11 =>
     again1 () h_11)) () h_6)) () h_2
theorem F57_eq : (fun (f0 : Option Addr) (h : Heap) (Q : Value → Heap → Prop) => fnPT Tryz.prog Tryz.f57 (fun i => bif Nat.beq i 0 then annNil else bif Nat.beq i 2 then annNil else annNil) (fun i => bif Nat.beq i 1003 then [0, 122] else bif Nat.beq i 1006 then [0, 131] else []) (fun i => bif Nat.beq i 7 then some ⟨[0, 1, 3, 7, 0, 16, 48, 112, 240, 511, 1023, 2047, 4095], 4096⟩ else none) [.pointer f0] h Q) = F57 := by kernel_rfl
theorem F57_ok {f0 : Option Addr} {h : Heap} {Q : Value → Heap → Prop} (H : F57 f0 h Q) : CallsH Tryz.prog 57 [.pointer f0] h Q :=
 callsH_of (ann := fun i => bif Nat.beq i 0 then annNil else bif Nat.beq i 2 then annNil else annNil) (tys := fun i => bif Nat.beq i 1003 then [0, 122] else bif Nat.beq i 1006 then [0, 131] else []) (pl := fun i => bif Nat.beq i 7 then some ⟨[0, 1, 3, 7, 0, 16, 48, 112, 240, 511, 1023, 2047, 4095], 4096⟩ else none) Tryz.func57 (by kernel_rfl) (by have e := F57_eq; exact (congrFun (congrFun (congrFun (e) f0) h) Q).symm ▸ H)

/-- slices.Clone[[]byte,byte] -/
def F176 (s0a : Option Addr) (s0l : Nat) (s0c : Nat) (h : Heap) (Q : Value → Heap → Prop) : Prop :=
 (bif (s0a).isNone then
  Q (.slice none 0 0) h
 else
  Al h (.cells #[] 5) fun b0 h_0 =>
  RunH Tryz.prog (Builtin.append_ #[85, 85] 85 #[.slice (some (Addr.mk b0 0 none)) 0 0, .slice s0a s0l s0c]) h_0 fun r1 h_1 =>
  DSl r1 fun x0a x0l x0c =>
  Q (.slice x0a x0l x0c) h_1)
theorem F176_eq : (fun (s0a : Option Addr) (s0l : Nat) (s0c : Nat) (h : Heap) (Q : Value → Heap → Prop) => fnPT Tryz.prog Tryz.f176 (fun _ => annNil) (fun _ => []) (fun _ => none) [.slice s0a s0l s0c] h Q) = F176 := by kernel_rfl
theorem F176_ok {s0a : Option Addr} {s0l : Nat} {s0c : Nat} {h : Heap} {Q : Value → Heap → Prop} (H : F176 s0a s0l s0c h Q) : CallsH Tryz.prog 176 [.slice s0a s0l s0c] h Q :=
 callsH_of (ann := fun _ => annNil) (tys := fun _ => []) (pl := fun _ => none) Tryz.func176 (by kernel_rfl) (by have e := F176_eq; exact (congrFun (congrFun (congrFun (congrFun (congrFun (e) s0a) s0l) s0c) h) Q).symm ▸ H)

/-- (*headgate/simfs.FS).Remove$1 -/
def F175 (n0 : Option Nat) (c0 : Addr) (h : Heap) (Q : Value → Heap → Prop) : Prop :=
 Ld h c0 fun v0 => DS v0 fun x0 =>
 RunH Tryz.prog (Builtin.delete_ #[130, 9] 0 #[.map n0, .string x0]) h fun r0 h_0 =>
 Q (.tuple #[]) h_0
theorem F175_eq : (fun (n0 : Option Nat) (c0 : Addr) (h : Heap) (Q : Value → Heap → Prop) => fnPT Tryz.prog Tryz.f175 (fun _ => annNil) (fun _ => []) (fun _ => none) [.map n0, .pointer (some c0)] h Q) = F175 := by kernel_rfl
theorem F175_ok {n0 : Option Nat} {c0 : Addr} {h : Heap} {Q : Value → Heap → Prop} (H : F175 n0 c0 h Q) : CallsH Tryz.prog 175 [.map n0, .pointer (some c0)] h Q :=
 callsH_of (ann := fun _ => annNil) (tys := fun _ => []) (pl := fun _ => none) Tryz.func175 (by kernel_rfl) (by have e := F175_eq; exact (congrFun (congrFun (congrFun (congrFun (e) n0) c0) h) Q).symm ▸ H)

/-- headgate/frame.One -/
def F114 (b0a : Option Addr) (b0l : Nat) (b0c : Nat) (h : Heap) (Q : Value → Heap → Prop) : Prop :=
 CallsH Tryz.prog 185 [.slice b0a b0l b0c] h fun r0 h_0 =>
 ∃ (x0a : Option Addr), ∃ (x0l : Nat), ∃ (x0c : Nat), ∃ (x1 : Bool), r0 = .tuple #[.slice x0a x0l x0c, .bool x1] ∧
 (bif !x1 then
  Q (.tuple #[.slice none 0 0, .int .i64 52]) h_0
 else
  (bif ((IntKind.wrap .i64 ((x0l : Int) + 8)) : Int) != (b0l : Int) then
   Q (.tuple #[.slice none 0 0, .int .i64 52]) h_0
  else
   RunH Tryz.prog (Builtin.append_ #[85, 85] 85 #[.slice none 0 0, .slice x0a x0l x0c]) h_0 fun r1 h_1 =>
   DSl r1 fun x2a x2l x2c =>
   Q (.tuple #[.slice x2a x2l x2c, .int .i64 0]) h_1))
theorem F114_eq : (fun (b0a : Option Addr) (b0l : Nat) (b0c : Nat) (h : Heap) (Q : Value → Heap → Prop) => fnPT Tryz.prog Tryz.f114 (fun _ => annNil) (fun _ => []) (fun _ => none) [.slice b0a b0l b0c] h Q) = F114 := by kernel_rfl
theorem F114_ok {b0a : Option Addr} {b0l : Nat} {b0c : Nat} {h : Heap} {Q : Value → Heap → Prop} (H : F114 b0a b0l b0c h Q) : CallsH Tryz.prog 114 [.slice b0a b0l b0c] h Q :=
 callsH_of (ann := fun _ => annNil) (tys := fun _ => []) (pl := fun _ => none) Tryz.func114 (by kernel_rfl) (by have e := F114_eq; exact (congrFun (congrFun (congrFun (congrFun (congrFun (e) b0a) b0l) b0c) h) Q).symm ▸ H)

/-- headgate/place.unfinished -/
def F234 (l_0a : Option Addr) (l_0l : Nat) (l_0c : Nat) (h : Heap) (Q : Value → Heap → Prop) : Prop :=
 Al h (.cells #[.slice l_0a l_0l l_0c] 44) fun b0 h_0 =>
 Q (.func (.func 254) #[] #[.pointer (some (Addr.mk b0 0 none))]) h_0
theorem F234_eq : (fun (l_0a : Option Addr) (l_0l : Nat) (l_0c : Nat) (h : Heap) (Q : Value → Heap → Prop) => fnPT Tryz.prog Tryz.f234 (fun _ => annNil) (fun _ => []) (fun _ => none) [.slice l_0a l_0l l_0c] h Q) = F234 := by kernel_rfl
theorem F234_ok {l_0a : Option Addr} {l_0l : Nat} {l_0c : Nat} {h : Heap} {Q : Value → Heap → Prop} (H : F234 l_0a l_0l l_0c h Q) : CallsH Tryz.prog 234 [.slice l_0a l_0l l_0c] h Q :=
 callsH_of (ann := fun _ => annNil) (tys := fun _ => []) (pl := fun _ => none) Tryz.func234 (by kernel_rfl) (by have e := F234_eq; exact (congrFun (congrFun (congrFun (congrFun (congrFun (e) l_0a) l_0l) l_0c) h) Q).symm ▸ H)

/-- headgate/frame.Pack -/
def F139 (b0a : Option Addr) (b0l : Nat) (b0c : Nat) (h : Heap) (Q : Value → Heap → Prop) : Prop :=
 (bif decide (((b0l : Int) : Int) > 16777208) then
  Q (.tuple #[.slice none 0 0, .int .i64 50]) h
 else
  CallsH Tryz.prog 206 [.int .u32 (IntKind.wrap .u32 (b0l : Int))] h fun r0 h_0 =>
  DSl r0 fun n0a n0l n0c =>
  CallsH Tryz.prog 36 [.slice n0a n0l n0c] h_0 fun r1 h_1 =>
  DI .u32 r1 fun x0 =>
  CallsH Tryz.prog 115 [.int .u32 x0, .slice b0a b0l b0c] h_1 fun r2 h_2 =>
  DI .u32 r2 fun x1 =>
  CallsH Tryz.prog 206 [.int .u32 x1] h_2 fun r3 h_3 =>
  DSl r3 fun x2a x2l x2c =>
  RunH Tryz.prog (Builtin.append_ #[85, 85] 85 #[.slice n0a n0l n0c, .slice x2a x2l x2c]) h_3 fun r4 h_4 =>
  DSl r4 fun x3a x3l x3c =>
  RunH Tryz.prog (Builtin.append_ #[85, 85] 85 #[.slice x3a x3l x3c, .slice b0a b0l b0c]) h_4 fun r5 h_5 =>
  DSl r5 fun x4a x4l x4c =>
  Q (.tuple #[.slice x4a x4l x4c, .int .i64 0]) h_5)
theorem F139_eq : (fun (b0a : Option Addr) (b0l : Nat) (b0c : Nat) (h : Heap) (Q : Value → Heap → Prop) => fnPT Tryz.prog Tryz.f139 (fun _ => annNil) (fun _ => []) (fun _ => none) [.slice b0a b0l b0c] h Q) = F139 := by kernel_rfl
theorem F139_ok {b0a : Option Addr} {b0l : Nat} {b0c : Nat} {h : Heap} {Q : Value → Heap → Prop} (H : F139 b0a b0l b0c h Q) : CallsH Tryz.prog 139 [.slice b0a b0l b0c] h Q :=
 callsH_of (ann := fun _ => annNil) (tys := fun _ => []) (pl := fun _ => none) Tryz.func139 (by kernel_rfl) (by have e := F139_eq; exact (congrFun (congrFun (congrFun (congrFun (congrFun (e) b0a) b0l) b0c) h) Q).symm ▸ H)

/-- headgate/place.Raw$1 -/
def F207 (c0 : Addr) (c1 : Addr) (c2 : Addr) (h : Heap) (Q : Value → Heap → Prop) : Prop :=
 Ld h c0 fun v0 => DP v0 fun x0 =>
 Ld h c1 fun v1 => DS v1 fun x1 =>
 Ld h c2 fun v2 => DS v2 fun x2 =>
 CallsH Tryz.prog 79 [.pointer x0, .string x1, .string x2] h fun r0 h_0 =>
 DI .i64 r0 fun x3 =>
 Q (.int .i64 x3) h_0
theorem F207_eq : (fun (c0 : Addr) (c1 : Addr) (c2 : Addr) (h : Heap) (Q : Value → Heap → Prop) => fnPT Tryz.prog Tryz.f207 (fun _ => annNil) (fun _ => []) (fun _ => none) [.pointer (some c0), .pointer (some c1), .pointer (some c2)] h Q) = F207 := by kernel_rfl
theorem F207_ok {c0 : Addr} {c1 : Addr} {c2 : Addr} {h : Heap} {Q : Value → Heap → Prop} (H : F207 c0 c1 c2 h Q) : CallsH Tryz.prog 207 [.pointer (some c0), .pointer (some c1), .pointer (some c2)] h Q :=
 callsH_of (ann := fun _ => annNil) (tys := fun _ => []) (pl := fun _ => none) Tryz.func207 (by kernel_rfl) (by have e := F207_eq; exact (congrFun (congrFun (congrFun (congrFun (congrFun (e) c0) c1) c2) h) Q).symm ▸ H)

/-- headgate/place.Raw$2 -/
def F208 (c0 : Addr) (c1 : Addr) (c2 : Addr) (c3 : Addr) (h : Heap) (Q : Value → Heap → Prop) : Prop :=
 Ld h c0 fun v0 => DP v0 fun x0 =>
 Ld h c1 fun v1 => DS v1 fun x1 =>
 Ld h c2 fun v2 => DS v2 fun x2 =>
 Ld h c3 fun v3 => DSl v3 fun x3a x3l x3c =>
 CallsH Tryz.prog 80 [.pointer x0, .string x1, .string x2, .slice x3a x3l x3c] h fun r0 h_0 =>
 DI .i64 r0 fun x4 =>
 Q (.int .i64 x4) h_0
theorem F208_eq : (fun (c0 : Addr) (c1 : Addr) (c2 : Addr) (c3 : Addr) (h : Heap) (Q : Value → Heap → Prop) => fnPT Tryz.prog Tryz.f208 (fun _ => annNil) (fun _ => []) (fun _ => none) [.pointer (some c0), .pointer (some c1), .pointer (some c2), .pointer (some c3)] h Q) = F208 := by kernel_rfl
theorem F208_ok {c0 : Addr} {c1 : Addr} {c2 : Addr} {c3 : Addr} {h : Heap} {Q : Value → Heap → Prop} (H : F208 c0 c1 c2 c3 h Q) : CallsH Tryz.prog 208 [.pointer (some c0), .pointer (some c1), .pointer (some c2), .pointer (some c3)] h Q :=
 callsH_of (ann := fun _ => annNil) (tys := fun _ => []) (pl := fun _ => none) Tryz.func208 (by kernel_rfl) (by have e := F208_eq; exact (congrFun (congrFun (congrFun (congrFun (congrFun (congrFun (e) c0) c1) c2) c3) h) Q).symm ▸ H)

/-- headgate/place.Raw$3 -/
def F209 (c0 : Addr) (c1 : Addr) (c2 : Addr) (h : Heap) (Q : Value → Heap → Prop) : Prop :=
 Ld h c0 fun v0 => DP v0 fun x0 =>
 Ld h c1 fun v1 => DS v1 fun x1 =>
 Ld h c2 fun v2 => DS v2 fun x2 =>
 CallsH Tryz.prog 81 [.pointer x0, .string x1, .string x2] h fun r0 h_0 =>
 DI .i64 r0 fun x3 =>
 Q (.int .i64 x3) h_0
theorem F209_eq : (fun (c0 : Addr) (c1 : Addr) (c2 : Addr) (h : Heap) (Q : Value → Heap → Prop) => fnPT Tryz.prog Tryz.f209 (fun _ => annNil) (fun _ => []) (fun _ => none) [.pointer (some c0), .pointer (some c1), .pointer (some c2)] h Q) = F209 := by kernel_rfl
theorem F209_ok {c0 : Addr} {c1 : Addr} {c2 : Addr} {h : Heap} {Q : Value → Heap → Prop} (H : F209 c0 c1 c2 h Q) : CallsH Tryz.prog 209 [.pointer (some c0), .pointer (some c1), .pointer (some c2)] h Q :=
 callsH_of (ann := fun _ => annNil) (tys := fun _ => []) (pl := fun _ => none) Tryz.func209 (by kernel_rfl) (by have e := F209_eq; exact (congrFun (congrFun (congrFun (congrFun (congrFun (e) c0) c1) c2) h) Q).symm ▸ H)

/-- headgate/place.Raw$4 -/
def F210 (c0 : Addr) (c1 : Addr) (c2 : Addr) (c3 : Addr) (h : Heap) (Q : Value → Heap → Prop) : Prop :=
 Ld h c0 fun v0 => DP v0 fun x0 =>
 Ld h c1 fun v1 => DS v1 fun x1 =>
 Ld h c2 fun v2 => DS v2 fun x2 =>
 Ld h c3 fun v3 => DS v3 fun x3 =>
 CallsH Tryz.prog 83 [.pointer x0, .string x1, .string x2, .string x3] h fun r0 h_0 =>
 DI .i64 r0 fun x4 =>
 Q (.int .i64 x4) h_0
theorem F210_eq : (fun (c0 : Addr) (c1 : Addr) (c2 : Addr) (c3 : Addr) (h : Heap) (Q : Value → Heap → Prop) => fnPT Tryz.prog Tryz.f210 (fun _ => annNil) (fun _ => []) (fun _ => none) [.pointer (some c0), .pointer (some c1), .pointer (some c2), .pointer (some c3)] h Q) = F210 := by kernel_rfl
theorem F210_ok {c0 : Addr} {c1 : Addr} {c2 : Addr} {c3 : Addr} {h : Heap} {Q : Value → Heap → Prop} (H : F210 c0 c1 c2 c3 h Q) : CallsH Tryz.prog 210 [.pointer (some c0), .pointer (some c1), .pointer (some c2), .pointer (some c3)] h Q :=
 callsH_of (ann := fun _ => annNil) (tys := fun _ => []) (pl := fun _ => none) Tryz.func210 (by kernel_rfl) (by have e := F210_eq; exact (congrFun (congrFun (congrFun (congrFun (congrFun (congrFun (e) c0) c1) c2) c3) h) Q).symm ▸ H)

/-- headgate/place.Raw$5 -/
def F211 (c0 : Addr) (c1 : Addr) (h : Heap) (Q : Value → Heap → Prop) : Prop :=
 Ld h c0 fun v0 => DP v0 fun x0 =>
 Ld h c1 fun v1 => DS v1 fun x1 =>
 CallsH Tryz.prog 82 [.pointer x0, .string x1] h fun r0 h_0 =>
 DI .i64 r0 fun x2 =>
 Q (.int .i64 x2) h_0
theorem F211_eq : (fun (c0 : Addr) (c1 : Addr) (h : Heap) (Q : Value → Heap → Prop) => fnPT Tryz.prog Tryz.f211 (fun _ => annNil) (fun _ => []) (fun _ => none) [.pointer (some c0), .pointer (some c1)] h Q) = F211 := by kernel_rfl
theorem F211_ok {c0 : Addr} {c1 : Addr} {h : Heap} {Q : Value → Heap → Prop} (H : F211 c0 c1 h Q) : CallsH Tryz.prog 211 [.pointer (some c0), .pointer (some c1)] h Q :=
 callsH_of (ann := fun _ => annNil) (tys := fun _ => []) (pl := fun _ => none) Tryz.func211 (by kernel_rfl) (by have e := F211_eq; exact (congrFun (congrFun (congrFun (congrFun (e) c0) c1) h) Q).symm ▸ H)

/-- slices.Contains[[]string,string] -/
def F212 (s0a : Option Addr) (s0l : Nat) (s0c : Nat) (v0 : ByteArray) (h : Heap) (Q : Value → Heap → Prop) : Prop :=
 CallsH Tryz.prog 238 [.slice s0a s0l s0c, .string v0] h fun r0 h_0 =>
 DI .i64 r0 fun x0 =>
 Q (.bool (decide ((x0 : Int) ≥ 0))) h_0
theorem F212_eq : (fun (s0a : Option Addr) (s0l : Nat) (s0c : Nat) (v0 : ByteArray) (h : Heap) (Q : Value → Heap → Prop) => fnPT Tryz.prog Tryz.f212 (fun _ => annNil) (fun _ => []) (fun _ => none) [.slice s0a s0l s0c, .string v0] h Q) = F212 := by kernel_rfl
theorem F212_ok {s0a : Option Addr} {s0l : Nat} {s0c : Nat} {v0 : ByteArray} {h : Heap} {Q : Value → Heap → Prop} (H : F212 s0a s0l s0c v0 h Q) : CallsH Tryz.prog 212 [.slice s0a s0l s0c, .string v0] h Q :=
 callsH_of (ann := fun _ => annNil) (tys := fun _ => []) (pl := fun _ => none) Tryz.func212 (by kernel_rfl) (by have e := F212_eq; exact (congrFun (congrFun (congrFun (congrFun (congrFun (congrFun (e) s0a) s0l) s0c) v0) h) Q).symm ▸ H)

/-- headgate/place.Raw$6 -/
def F213 (c0 : Addr) (c1 : Addr) (c2 : Addr) (h : Heap) (Q : Value → Heap → Prop) : Prop :=
 Ld h c0 fun v0 => DP v0 fun x0 =>
 Ld h c1 fun v1 => DS v1 fun x1 =>
 Ld h c2 fun v2 => DS v2 fun x2 =>
 CallsH Tryz.prog 84 [.pointer x0, .string x1, .string x2] h fun r0 h_0 =>
 DI .i64 r0 fun x3 =>
 Q (.int .i64 x3) h_0
theorem F213_eq : (fun (c0 : Addr) (c1 : Addr) (c2 : Addr) (h : Heap) (Q : Value → Heap → Prop) => fnPT Tryz.prog Tryz.f213 (fun _ => annNil) (fun _ => []) (fun _ => none) [.pointer (some c0), .pointer (some c1), .pointer (some c2)] h Q) = F213 := by kernel_rfl
theorem F213_ok {c0 : Addr} {c1 : Addr} {c2 : Addr} {h : Heap} {Q : Value → Heap → Prop} (H : F213 c0 c1 c2 h Q) : CallsH Tryz.prog 213 [.pointer (some c0), .pointer (some c1), .pointer (some c2)] h Q :=
 callsH_of (ann := fun _ => annNil) (tys := fun _ => []) (pl := fun _ => none) Tryz.func213 (by kernel_rfl) (by have e := F213_eq; exact (congrFun (congrFun (congrFun (congrFun (congrFun (e) c0) c1) c2) h) Q).symm ▸ H)

end Go.Proofs.YtibdiikcigokjaaGreatDoor
