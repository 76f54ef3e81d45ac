/- The texts over heaps of functions of the program: written by a program of this claim's writer (decomp.py); Lean checks each against the code. -/
import Derived.Test.YticjjdhaikbdaaaFwA
import Derived.Test.YticjjdhaikbdaaaProg
namespace Go.Proofs.Yticjjdhaikbdaaa
open Go Go.RowKit
set_option linter.unusedVariables false
set_option maxRecDepth 100000

/-- (*headgate/segment.Log).last -/
def F101 (l_0 : Option Addr) (h : Heap) (Q : Value → Heap → Prop) : Prop :=
  NN' l_0 fun a0 =>
  Ld h (a0.add 3) fun v0 => DSl v0 fun x0a x0l x0c =>
  (bif ((x0l : Int) : Int) == 0 then
    Q (.pointer none) h
  else
    NN' l_0 fun a1 =>
    Ld h (a1.add 3) fun v1 => DSl v1 fun x1a x1l x1c =>
    NN' l_0 fun a2 =>
    Ld h (a2.add 3) fun v2 => DSl v2 fun x2a x2l x2c =>
    IdxA x1a x1l (IntKind.wrap .i64 ((x2l : Int) - 1)) 3 fun a3 =>
    Q (.pointer (some a3)) h)
theorem F101_eq : (fun (l_0 : Option Addr) (h : Heap) (Q : Value → Heap → Prop) => fnPT Try.prog Try.f101 (fun _ => annNil) (fun _ => []) (fun _ => none) [.pointer l_0] h Q) = F101 := by kernel_rfl
theorem F101_ok {l_0 : Option Addr} {h : Heap} {Q : Value → Heap → Prop} (H : F101 l_0 h Q) : CallsH Try.prog 101 [.pointer l_0] h Q :=
  callsH_of (ann := fun _ => annNil) (tys := fun _ => []) (pl := fun _ => none) Try.func101 (by kernel_rfl) (by have e := F101_eq; exact (congrFun (congrFun (congrFun (e) l_0) h) Q).symm ▸ H)

/-- (*headgate/segment.Log).roll -/
def F102 (l_0 : Option Addr) (h : Heap) (Q : Value → Heap → Prop) : Prop :=
  CallsH Try.prog 52 [.pointer l_0] h fun r0 h_0 =>
  DI .i64 r0 fun e0 =>
  (bif (e0 : Int) != 0 then
    Q (.int .i64 e0) h_0
  else
    NN' l_0 fun a0 =>
    Ld h_0 (a0.add 0) fun v0 => DP v0 fun x0 =>
    NN' l_0 fun a1 =>
    Ld h_0 (a1.add 1) fun v1 => DS v1 fun x1 =>
    NN' l_0 fun a2 =>
    Ld h_0 (a2.add 4) fun v2 => DI .i64 v2 fun x2 =>
    ∃ r2, (CallsH Try.prog 103 [.int .i64 x2] h_0 fun r1 h_1 =>
    r1 = r2 ∧ h_1 = h_0) ∧
    DS r2 fun x3 =>
    ∃ r4, (CallsH Try.prog 17 [.pointer x0, .string x1, .string x3] h_0 fun r3 h_2 =>
    r3 = r4 ∧ h_2 = h_0) ∧
    DI .i64 r4 fun e1 =>
    (bif (e1 : Int) != 0 then
      Q (.int .i64 e1) h_0
    else
      NN' l_0 fun a3 =>
      Ld h_0 (a3.add 0) fun v3 => DP v3 fun x4 =>
      NN' l_0 fun a4 =>
      Ld h_0 (a4.add 1) fun v4 => DS v4 fun x5 =>
      ∃ r6, (CallsH Try.prog 20 [.pointer x4, .string x5] h_0 fun r5 h_3 =>
      r5 = r6 ∧ h_3 = h_0) ∧
      DI .i64 r6 fun e2 =>
      (bif (e2 : Int) != 0 then
        Q (.int .i64 e2) h_0
      else
        NN' l_0 fun a5 =>
        Ld h_0 (a5.add 3) fun v5 => DSl v5 fun x6a x6l x6c =>
        NN' l_0 fun a6 =>
        Ld h_0 (a6.add 4) fun v6 => DI .i64 v6 fun x7 =>
        Al h_0 (.cells #[.int .i64 x7, .int .i64 0, .int .i64 0] 141) fun b0 h_4 =>
        (SameV (some (.pointer l_0)) (.pointer l_0)) ∧
        (SameV (some (.pointer l_0)) (.pointer l_0)) ∧
        (NN' l_0 fun a7 =>
        SameV (some (.pointer (some a5))) (.pointer (some a7))) ∧
        (SameV (some (.pointer (some (a5.add 3)))) (.pointer (some (a5.add 3)))) ∧
        (Ld h_4 (a5.add 3) fun v7 => DSl v7 fun x8a x8l x8c =>
        SameV (some (.slice x6a x6l x6c)) (.slice x8a x8l x8c)) ∧
        RunH Try.prog (Builtin.append_ #[132, 132] 132 #[.slice x6a x6l x6c, .slice (some (Addr.mk b0 0 none)) 1 1]) h_4 fun r8 h_5 =>
        DSl r8 fun x9a x9l x9c =>
        (SameV (some (.pointer l_0)) (.pointer l_0)) ∧
        NN' l_0 fun a8 =>
        StC h_5 ((a8.add 3).add 0) (.slice x9a x9l x9c) fun h_7 =>
        Q (.int .i64 0) h_7)))
theorem F102_eq : (fun (l_0 : Option Addr) (h : Heap) (Q : Value → Heap → Prop) => fnPT Try.prog Try.f102 (fun _ => annNil) (fun _ => []) (fun i => bif Nat.beq i 10 then some ⟨[0, 0, 2, 6, 14, 0, 32, 96, 224, 480, 992, 2046, 4095, 8191, 16383], 19456⟩ else none) [.pointer l_0] h Q) = F102 := by kernel_rfl
theorem F102_ok {l_0 : Option Addr} {h : Heap} {Q : Value → Heap → Prop} (H : F102 l_0 h Q) : CallsH Try.prog 102 [.pointer l_0] h Q :=
  callsH_of (ann := fun _ => annNil) (tys := fun _ => []) (pl := fun i => bif Nat.beq i 10 then some ⟨[0, 0, 2, 6, 14, 0, 32, 96, 224, 480, 992, 2046, 4095, 8191, 16383], 19456⟩ else none) Try.func102 (by kernel_rfl) (by have e := F102_eq; exact (congrFun (congrFun (congrFun (e) l_0) h) Q).symm ▸ H)

/-- headgate/segment.name -/
def F103 (base0 : Int) (h : Heap) (Q : Value → Heap → Prop) : Prop :=
  CallsH Try.prog 39 [.int .i64 base0] h fun r0 h_0 =>
  DS r0 fun x0 =>
  (⟨#[115, 46]⟩ : ByteArray).size + (x0 : ByteArray).size ≤ 9223372036854775807 ∧
  Q (.string (⟨#[115, 46]⟩ ++ x0)) h_0
theorem F103_eq : (fun (base0 : Int) (h : Heap) (Q : Value → Heap → Prop) => fnPT Try.prog Try.f103 (fun _ => annNil) (fun _ => []) (fun _ => none) [.int .i64 base0] h Q) = F103 := by kernel_rfl
theorem F103_ok {base0 : Int} {h : Heap} {Q : Value → Heap → Prop} (H : F103 base0 h Q) : CallsH Try.prog 103 [.int .i64 base0] h Q :=
  callsH_of (ann := fun _ => annNil) (tys := fun _ => []) (pl := fun _ => none) Try.func103 (by kernel_rfl) (by have e := F103_eq; exact (congrFun (congrFun (congrFun (e) base0) h) Q).symm ▸ H)

/-- sort.Search -/
def F104 (n0 : Int) (f0 : Value) (h : Heap) (Q : Value → Heap → Prop) : Prop :=
  LoopH (fun again0 (s0 : Int × Int) h_0 =>
    (bif decide ((s0.1 : Int) < s0.2) then
      0 ≤ (1 : Int) ∧
      CallV Try.prog f0 [.int .i64 (IntKind.wrap .i64 (shrI .u64 (IntKind.wrap .u64 (IntKind.wrap .i64 (s0.1 + s0.2))) 1))] h_0 fun r0 h_1 =>
      DB r0 fun x0 =>
      (bif !x0 then
        again0 (IntKind.wrap .i64 ((IntKind.wrap .i64 (shrI .u64 (IntKind.wrap .u64 (IntKind.wrap .i64 (s0.1 + s0.2))) 1)) + 1), s0.2) h_1
      else
        again0 (s0.1, IntKind.wrap .i64 (shrI .u64 (IntKind.wrap .u64 (IntKind.wrap .i64 (s0.1 + s0.2))) 1)) h_1)
    else
      Q (.int .i64 s0.1) h_0)) (0, n0) h
theorem F104_eq : (fun (n0 : Int) (f0 : Value) (h : Heap) (Q : Value → Heap → Prop) => fnPT Try.prog Try.f104 (fun i => bif Nat.beq i 0 then annCons 5 (codI .i64) (annOne 6 (codI .i64)) else annNil) (fun _ => []) (fun _ => none) [.int .i64 n0, f0] h Q) = F104 := by kernel_rfl
theorem F104_ok {n0 : Int} {f0 : Value} {h : Heap} {Q : Value → Heap → Prop} (H : F104 n0 f0 h Q) : CallsH Try.prog 104 [.int .i64 n0, f0] h Q :=
  callsH_of (ann := fun i => bif Nat.beq i 0 then annCons 5 (codI .i64) (annOne 6 (codI .i64)) else annNil) (tys := fun _ => []) (pl := fun _ => none) Try.func104 (by kernel_rfl) (by have e := F104_eq; exact (congrFun (congrFun (congrFun (congrFun (e) n0) f0) h) Q).symm ▸ H)

/-- (*headgate/segment.Log).Read$1 -/
def F105 (i0 : Int) (c0 : Addr) (c1 : Addr) (h : Heap) (Q : Value → Heap → Prop) : Prop :=
  Ld h c0 fun v0 => DP v0 fun x0 =>
  NN' x0 fun a0 =>
  Ld h (a0.add 3) fun v1 => DSl v1 fun x1a x1l x1c =>
  IdxA x1a x1l i0 3 fun a1 =>
  Ld h (a1.add 0) fun v2 => DI .i64 v2 fun x2 =>
  Ld h c0 fun v3 => DP v3 fun x3 =>
  NN' x3 fun a2 =>
  Ld h (a2.add 3) fun v4 => DSl v4 fun x4a x4l x4c =>
  IdxA x4a x4l i0 3 fun a3 =>
  Ld h (a3.add 1) fun v5 => DI .i64 v5 fun x5 =>
  Ld h c1 fun v6 => DI .i64 v6 fun x6 =>
  Q (.bool (decide (((IntKind.wrap .i64 (x2 + x5)) : Int) > x6))) h
theorem F105_eq : (fun (i0 : Int) (c0 : Addr) (c1 : Addr) (h : Heap) (Q : Value → Heap → Prop) => fnPT Try.prog Try.f105 (fun _ => annNil) (fun _ => []) (fun _ => none) [.int .i64 i0, .pointer (some c0), .pointer (some c1)] h Q) = F105 := by kernel_rfl
theorem F105_ok {i0 : Int} {c0 : Addr} {c1 : Addr} {h : Heap} {Q : Value → Heap → Prop} (H : F105 i0 c0 c1 h Q) : CallsH Try.prog 105 [.int .i64 i0, .pointer (some c0), .pointer (some c1)] h Q :=
  callsH_of (ann := fun _ => annNil) (tys := fun _ => []) (pl := fun _ => none) Try.func105 (by kernel_rfl) (by have e := F105_eq; exact (congrFun (congrFun (congrFun (congrFun (congrFun (e) i0) c0) c1) h) Q).symm ▸ H)

/-- headgate/segment.good -/
def F106 (b0a : Option Addr) (b0l : Nat) (b0c : Nat) (h : Heap) (Q : Value → Heap → Prop) : Prop :=
  Al h (.cells #[.slice none 0 0] 74) fun b1 h_0 =>
  Al h_0 (.cells #[.int .i64 0] 3) fun b2 h_1 =>
  StC h_1 ((Addr.mk b2 0 none).add 0) (.int .i64 0) fun h_3 =>
  CallsH Try.prog 132 [.slice b0a b0l b0c] h_3 fun r3 h_4 =>
  ∃ (x0 : Value), r3 = x0 ∧
  RangeFn Try.prog x0 2 none h_4 (fun l_0 rec_0 args0 h_5 Q_0 =>
    ∃ (y0 : Int), ∃ (y1a : Option Addr), ∃ (y1l : Nat), ∃ (y1c : Nat), args0 = [.int .i64 y0, .slice y1a y1l y1c] ∧
    h_5[l_0]? = some (rec_0 .ready none) ∧
    (bif decide (((y1l : Int) : Int) > 1024) then
      (h_5.setIfInBounds l_0 (rec_0 .busy none))[l_0]? = some (rec_0 .busy none) ∧ Q_0 (.bool false) ((h_5.setIfInBounds l_0 (rec_0 .busy none)).setIfInBounds l_0 (rec_0 .done (some (.exit 0))))
    else
      Ld (h_5.setIfInBounds l_0 (rec_0 .busy none)) (Addr.mk b1 0 none) fun v0 => DSl v0 fun x1a x1l x1c =>
      SlV y1a y1c 1 0 (y1l : Int) (y1l : Int) fun s0a s0l s0c =>
      Al (h_5.setIfInBounds l_0 (rec_0 .busy none)) (.cells #[.slice s0a s0l s0c] 31) fun b3 h_6 =>
      (Ld h_6 (Addr.mk b1 0 none) fun v1 => DSl v1 fun x2a x2l x2c =>
      SameV (some (.slice x1a x1l x1c)) (.slice x2a x2l x2c)) ∧
      RunH Try.prog (Builtin.append_ #[74, 74] 74 #[.slice x1a x1l x1c, .slice (some (Addr.mk b3 0 none)) 1 1]) h_6 fun r5 h_7 =>
      DSl r5 fun x3a x3l x3c =>
      StC h_7 ((Addr.mk b1 0 none).add 0) (.slice x3a x3l x3c) fun h_9 =>
      StC h_9 ((Addr.mk b2 0 none).add 0) (.int .i64 (IntKind.wrap .i64 ((IntKind.wrap .i64 (y0 + 8)) + (y1l : Int)))) fun h_11 =>
      h_11[l_0]? = some (rec_0 .busy none) ∧ Q_0 (.bool true) (h_11.setIfInBounds l_0 (rec_0 .ready none)))) (fun pend0 h_12 =>
    (pend0 = none ∨ pend0 = some (.exit 0)) ∧
    (pend0 = none →
      Ld h_12 (Addr.mk b1 0 none) fun v2 => DSl v2 fun x4a x4l x4c =>
      Ld h_12 (Addr.mk b2 0 none) fun v3 => DI .i64 v3 fun x5 =>
      h_12[h_4.size]? = some (.deferred (some [])) ∧
      Q (.tuple #[.slice x4a x4l x4c, .int .i64 x5]) (h_12.setIfInBounds h_4.size (.deferred none))) ∧
    (pend0 = some (.exit 0) →
      Ld h_12 (Addr.mk b1 0 none) fun v4 => DSl v4 fun x6a x6l x6c =>
      Ld h_12 (Addr.mk b2 0 none) fun v5 => DI .i64 v5 fun x7 =>
      h_12[h_4.size]? = some (.deferred (some [])) ∧
      Q (.tuple #[.slice x6a x6l x6c, .int .i64 x7]) (h_12.setIfInBounds h_4.size (.deferred none))))
theorem F106_eq : (fun (b0a : Option Addr) (b0l : Nat) (b0c : Nat) (h : Heap) (Q : Value → Heap → Prop) => fnPT Try.prog Try.f106 (fun _ => annNil) (fun i => bif Nat.beq i 0 then [3, 31] else []) (fun i => bif Nat.beq i 7 then some ⟨[0, 0, 0, 4, 0, 16, 62, 126, 255, 511], 896⟩ else none) [.slice b0a b0l b0c] h Q) = F106 := by kernel_rfl
theorem F106_ok {b0a : Option Addr} {b0l : Nat} {b0c : Nat} {h : Heap} {Q : Value → Heap → Prop} (H : F106 b0a b0l b0c h Q) : CallsH Try.prog 106 [.slice b0a b0l b0c] h Q :=
  callsH_of (ann := fun _ => annNil) (tys := fun i => bif Nat.beq i 0 then [3, 31] else []) (pl := fun i => bif Nat.beq i 7 then some ⟨[0, 0, 0, 4, 0, 16, 62, 126, 255, 511], 896⟩ else none) Try.func106 (by kernel_rfl) (by have e := F106_eq; exact (congrFun (congrFun (congrFun (congrFun (congrFun (e) b0a) b0l) b0c) h) Q).symm ▸ H)

/-- (*headgate/simfs.FS).find -/
def F107 (f0 : Option Addr) (dir0 : ByteArray) (of_0a : Option Addr) (of_0l : Nat) (of_0c : Nat) (h : Heap) (Q : Value → Heap → Prop) : Prop :=
  CallsH Try.prog 133 [.string dir0] h fun r0 h_0 =>
  DB r0 fun x0 =>
  (bif !x0 then
    Q (.tuple #[.pointer none, .int .i64 65]) h_0
  else
    LoopH (fun again0 (s0 : Int) h_1 =>
      (bif decide ((s0 : Int) < (of_0l : Int)) then
        IdxA of_0a of_0l s0 1 fun a0 =>
        Ld h_1 a0 fun v0 => DS v0 fun s1 =>
        CallsH Try.prog 133 [.string s1] h_1 fun r1 h_2 =>
        DB r1 fun x1 =>
        (bif !x1 then
          Q (.tuple #[.pointer none, .int .i64 65]) h_2
        else
          again0 (IntKind.wrap .i64 (s0 + 1)) h_2)
      else
        NN' f0 fun a1 =>
        Ld h_1 (a1.add 5) fun v1 => DM v1 fun x2 =>
        ∃ es0, mapEs h_1 x2 es0 ∧ ∃ f1, Instr.findNow .string (.string dir0) (es0 : Array MapEntry).toList 0 = some f1 ∧
        DP ((Option.map (fun x => x.2) f1).getD (.pointer none)) fun d0 =>
        (bif (d0).isNone then
          Q (.tuple #[.pointer none, .int .i64 61]) h_1
        else
          Q (.tuple #[.pointer d0, .int .i64 0]) h_1))) 0 h_0)
theorem F107_eq : (fun (f0 : Option Addr) (dir0 : ByteArray) (of_0a : Option Addr) (of_0l : Nat) (of_0c : Nat) (h : Heap) (Q : Value → Heap → Prop) => fnPT Try.prog Try.f107 (fun i => bif Nat.beq i 0 then annOne 16 (codI .i64) else annNil) (fun _ => []) (fun _ => none) [.pointer f0, .string dir0, .slice of_0a of_0l of_0c] h Q) = F107 := by kernel_rfl
theorem F107_ok {f0 : Option Addr} {dir0 : ByteArray} {of_0a : Option Addr} {of_0l : Nat} {of_0c : Nat} {h : Heap} {Q : Value → Heap → Prop} (H : F107 f0 dir0 of_0a of_0l of_0c h Q) : CallsH Try.prog 107 [.pointer f0, .string dir0, .slice of_0a of_0l of_0c] h Q :=
  callsH_of (ann := fun i => bif Nat.beq i 0 then annOne 16 (codI .i64) else annNil) (tys := fun _ => []) (pl := fun _ => none) Try.func107 (by kernel_rfl) (by have e := F107_eq; exact (congrFun (congrFun (congrFun (congrFun (congrFun (congrFun (congrFun (e) f0) dir0) of_0a) of_0l) of_0c) h) Q).symm ▸ H)

/-- slices.Collect[string] -/
def F109 (seq0 : Value) (h : Heap) (Q : Value → Heap → Prop) : Prop :=
  CallsH Try.prog 134 [.slice none 0 0, seq0] h fun r0 h_0 =>
  DSl r0 fun x0a x0l x0c =>
  Q (.slice x0a x0l x0c) h_0
theorem F109_eq : (fun (seq0 : Value) (h : Heap) (Q : Value → Heap → Prop) => fnPT Try.prog Try.f109 (fun _ => annNil) (fun _ => []) (fun _ => none) [seq0] h Q) = F109 := by kernel_rfl
theorem F109_ok {seq0 : Value} {h : Heap} {Q : Value → Heap → Prop} (H : F109 seq0 h Q) : CallsH Try.prog 109 [seq0] h Q :=
  callsH_of (ann := fun _ => annNil) (tys := fun _ => []) (pl := fun _ => none) Try.func109 (by kernel_rfl) (by have e := F109_eq; exact (congrFun (congrFun (congrFun (e) seq0) h) Q).symm ▸ H)

/-- slices.Sort[[]string,string] -/
def F110 (x0a : Option Addr) (x0l : Nat) (x0c : Nat) (h : Heap) (Q : Value → Heap → Prop) : Prop :=
  CallsH Try.prog 136 [.int .u64 (IntKind.wrap .u64 (x0l : Int))] h fun r0 h_0 =>
  DI .i64 r0 fun x1 =>
  CallsH Try.prog 135 [.slice x0a x0l x0c, .int .i64 0, .int .i64 (x0l : Int), .int .i64 x1] h_0 fun r1 h_1 =>
  r1 = .tuple #[] ∧
  Q (.tuple #[]) h_1
theorem F110_eq : (fun (x0a : Option Addr) (x0l : Nat) (x0c : Nat) (h : Heap) (Q : Value → Heap → Prop) => fnPT Try.prog Try.f110 (fun _ => annNil) (fun _ => []) (fun _ => none) [.slice x0a x0l x0c] h Q) = F110 := by kernel_rfl
theorem F110_ok {x0a : Option Addr} {x0l : Nat} {x0c : Nat} {h : Heap} {Q : Value → Heap → Prop} (H : F110 x0a x0l x0c h Q) : CallsH Try.prog 110 [.slice x0a x0l x0c] h Q :=
  callsH_of (ann := fun _ => annNil) (tys := fun _ => []) (pl := fun _ => none) Try.func110 (by kernel_rfl) (by have e := F110_eq; exact (congrFun (congrFun (congrFun (congrFun (congrFun (e) x0a) x0l) x0c) h) Q).symm ▸ H)

/-- maps.Keys[headgate/simfs.names,string,*headgate/simfs.file]$1 -/
def F111 (yield0 : Value) (c0 : Addr) (h : Heap) (Q : Value → Heap → Prop) : Prop :=
  Ld h c0 fun v0 => DM v0 fun x0 =>
  RunH Try.prog (Instr.range 88 (.map x0)) h fun r0 h_0 =>
  DP r0 fun p0 =>
  LoopH (fun again0 (s0 : Unit) h_1 =>
    RunH Try.prog (Instr.next (.pointer p0) false 0) h_1 fun r1 h_2 =>
    (
      r1 = .tuple #[.bool false] ∧
      Q (.tuple #[]) h_2) ∨ (
      ∃ (k0 x1 : Value), r1 = .tuple #[.bool true, k0, x1] ∧
      RunH Try.prog (Instr.entry (.pointer p0)) h_2 fun r2 h_3 =>
      ∃ (x2 : ByteArray), ∃ (x3 : Value), r2 = .tuple #[.string x2, x3] ∧
      CallV Try.prog yield0 [.string x2] h_3 fun r3 h_4 =>
      DB r3 fun x4 =>
      (bif !x4 then
        Q (.tuple #[]) h_4
      else
        again0 () h_4))) () h_0
theorem F111_eq : (fun (yield0 : Value) (c0 : Addr) (h : Heap) (Q : Value → Heap → Prop) => fnPT Try.prog Try.f111 (fun i => bif Nat.beq i 0 then annNil else annNil) (fun i => bif Nat.beq i 1002 then [9, 0] else []) (fun _ => none) [yield0, .pointer (some c0)] h Q) = F111 := by kernel_rfl
theorem F111_ok {yield0 : Value} {c0 : Addr} {h : Heap} {Q : Value → Heap → Prop} (H : F111 yield0 c0 h Q) : CallsH Try.prog 111 [yield0, .pointer (some c0)] h Q :=
  callsH_of (ann := fun i => bif Nat.beq i 0 then annNil else annNil) (tys := fun i => bif Nat.beq i 1002 then [9, 0] else []) (pl := fun _ => none) Try.func111 (by kernel_rfl) (by have e := F111_eq; exact (congrFun (congrFun (congrFun (congrFun (e) yield0) c0) h) Q).symm ▸ H)

/-- (*headgate/headgateref06.FS).ready -/
def F112 (f0 : Option Addr) (dir0 : ByteArray) (a0 : ByteArray) (b0 : ByteArray) (h : Heap) (Q : Value → Heap → Prop) : Prop :=
  NN' f0 fun a1 =>
  Ld h (a1.add 3) fun v0 => DB v0 fun x0 =>
  (bif x0 then
    Q (.tuple #[.int .i64 (-1), .int .i64 60]) h
  else
    CallsH Try.prog 119 [.pointer f0, .string dir0, .string a0, .string b0] h fun r0 h_0 =>
    ∃ (x1 : Int), ∃ (x2 : Int), r0 = .tuple #[.int .i64 x1, .int .i64 x2] ∧
    Q (.tuple #[.int .i64 x1, .int .i64 x2]) h_0)
theorem F112_eq : (fun (f0 : Option Addr) (dir0 : ByteArray) (a0 : ByteArray) (b0 : ByteArray) (h : Heap) (Q : Value → Heap → Prop) => fnPT Try.prog Try.f112 (fun _ => annNil) (fun _ => []) (fun _ => none) [.pointer f0, .string dir0, .string a0, .string b0] h Q) = F112 := by kernel_rfl
theorem F112_ok {f0 : Option Addr} {dir0 : ByteArray} {a0 : ByteArray} {b0 : ByteArray} {h : Heap} {Q : Value → Heap → Prop} (H : F112 f0 dir0 a0 b0 h Q) : CallsH Try.prog 112 [.pointer f0, .string dir0, .string a0, .string b0] h Q :=
  callsH_of (ann := fun _ => annNil) (tys := fun _ => []) (pl := fun _ => none) Try.func112 (by kernel_rfl) (by have e := F112_eq; exact (congrFun (congrFun (congrFun (congrFun (congrFun (congrFun (e) f0) dir0) a0) b0) h) Q).symm ▸ H)

/-- (*headgate/headgateref06.FS).step -/
def F113 (f0 : Option Addr) (h : Heap) (Q : Value → Heap → Prop) : Prop :=
  NN' f0 fun a0 =>
  Ld h (a0.add 2) fun v0 => DI .i64 v0 fun x0 =>
  (bif (x0 : Int) == 0 then
    NN' f0 fun a1 =>
    StC h ((a1.add 3).add 0) (.bool true) fun h_1 =>
    Q (.int .i64 60) h_1
  else
    NN' f0 fun a2 =>
    Ld h (a2.add 2) fun v1 => DI .i64 v1 fun x1 =>
    (bif decide ((x1 : Int) > 0) then
      NN' f0 fun a3 =>
      Ld h (a3.add 2) fun v2 => DI .i64 v2 fun x2 =>
      NN' f0 fun a4 =>
      StC h ((a4.add 2).add 0) (.int .i64 (IntKind.wrap .i64 (x2 - 1))) fun h_3 =>
      NN' f0 fun a5 =>
      Ld h_3 (a5.add 1) fun v3 => DI .i64 v3 fun x3 =>
      NN' f0 fun a6 =>
      StC h_3 ((a6.add 1).add 0) (.int .i64 (IntKind.wrap .i64 (x3 + 1))) fun h_5 =>
      Q (.int .i64 0) h_5
    else
      NN' f0 fun a7 =>
      Ld h (a7.add 1) fun v4 => DI .i64 v4 fun x4 =>
      NN' f0 fun a8 =>
      StC h ((a8.add 1).add 0) (.int .i64 (IntKind.wrap .i64 (x4 + 1))) fun h_7 =>
      Q (.int .i64 0) h_7))
theorem F113_eq : (fun (f0 : Option Addr) (h : Heap) (Q : Value → Heap → Prop) => fnPT Try.prog Try.f113 (fun _ => annNil) (fun _ => []) (fun _ => none) [.pointer f0] h Q) = F113 := by kernel_rfl
theorem F113_ok {f0 : Option Addr} {h : Heap} {Q : Value → Heap → Prop} (H : F113 f0 h Q) : CallsH Try.prog 113 [.pointer f0] h Q :=
  callsH_of (ann := fun _ => annNil) (tys := fun _ => []) (pl := fun _ => none) Try.func113 (by kernel_rfl) (by have e := F113_eq; exact (congrFun (congrFun (congrFun (e) f0) h) Q).symm ▸ H)

/-- headgate/headgateref06.of -/
def F114 (l_0a : Option Addr) (l_0l : Nat) (l_0c : Nat) (name0 : ByteArray) (h : Heap) (Q : Value → Heap → Prop) : Prop :=
  LoopH (fun again0 (s0 : Int) h_0 =>
    (bif decide ((s0 : Int) < (l_0l : Int)) then
      IdxA l_0a l_0l s0 2 fun a0 =>
      Ld h_0 (a0.add 0) fun v0 => DS v0 fun x0 =>
      (bif strEq x0 name0 then
        IdxA l_0a l_0l s0 2 fun a1 =>
        Ld h_0 (a1.add 1) fun v1 => DI .i64 v1 fun x1 =>
        Q (.int .i64 x1) h_0
      else
        again0 (IntKind.wrap .i64 (s0 + 1)) h_0)
    else
      Q (.int .i64 (-1)) h_0)) 0 h
theorem F114_eq : (fun (l_0a : Option Addr) (l_0l : Nat) (l_0c : Nat) (name0 : ByteArray) (h : Heap) (Q : Value → Heap → Prop) => fnPT Try.prog Try.f114 (fun i => bif Nat.beq i 0 then annOne 5 (codI .i64) else annNil) (fun _ => []) (fun _ => none) [.slice l_0a l_0l l_0c, .string name0] h Q) = F114 := by kernel_rfl
theorem F114_ok {l_0a : Option Addr} {l_0l : Nat} {l_0c : Nat} {name0 : ByteArray} {h : Heap} {Q : Value → Heap → Prop} (H : F114 l_0a l_0l l_0c name0 h Q) : CallsH Try.prog 114 [.slice l_0a l_0l l_0c, .string name0] h Q :=
  callsH_of (ann := fun i => bif Nat.beq i 0 then annOne 5 (codI .i64) else annNil) (tys := fun _ => []) (pl := fun _ => none) Try.func114 (by kernel_rfl) (by have e := F114_eq; exact (congrFun (congrFun (congrFun (congrFun (congrFun (congrFun (e) l_0a) l_0l) l_0c) name0) h) Q).symm ▸ H)

/-- (*headgate/headgateref06.FS).change -/
def F115 (f0 : Option Addr) (d0 : Int) (o0 : Int) (o1 : ByteArray) (o2 : ByteArray) (o3 : Int) (h : Heap) (Q : Value → Heap → Prop) : Prop :=
  Al h (.cells #[.int .i64 o0, .string o1, .string o2, .int .i64 o3] 154) fun b0 h_0 =>
  CallsH Try.prog 113 [.pointer f0] h_0 fun r1 h_1 =>
  DI .i64 r1 fun e0 =>
  (bif (e0 : Int) == 0 then
    NN' f0 fun a0 =>
    Ld h_1 (a0.add 5) fun v0 => DSl v0 fun x0a x0l x0c =>
    NN' f0 fun a1 =>
    Ld h_1 (a1.add 5) fun v1 => DSl v1 fun x1a x1l x1c =>
    IdxA x1a x1l d0 4 fun a2 =>
    Ld h_1 (a2.add 1) fun v2 => DSl v2 fun x2a x2l x2c =>
    Ld h_1 ((Addr.mk b0 0 none).add 0) fun c0 =>
    Ld h_1 ((Addr.mk b0 0 none).add 1) fun c1 =>
    Ld h_1 ((Addr.mk b0 0 none).add 2) fun c2 =>
    Ld h_1 ((Addr.mk b0 0 none).add 3) fun c3 =>
    ∃ (x3 : Int), ∃ (x4 : ByteArray), ∃ (x5 : ByteArray), ∃ (x6 : Int), (Value.agg #[c0, c1, c2, c3]) = .agg #[.int .i64 x3, .string x4, .string x5, .int .i64 x6] ∧
    ∃ r3, (CallsH Try.prog 118 [.slice x2a x2l x2c, .agg #[.int .i64 x3, .string x4, .string x5, .int .i64 x6]] h_1 fun r2 h_2 =>
    r2 = r3 ∧ h_2 = h_1) ∧
    DSl r3 fun x7a x7l x7c =>
    IdxA x0a x0l d0 4 fun a3 =>
    StC h_1 ((a3.add 1).add 0) (.slice x7a x7l x7c) fun h_4 =>
    NN' f0 fun a4 =>
    Ld h_4 (a4.add 5) fun v3 => DSl v3 fun x8a x8l x8c =>
    NN' f0 fun a5 =>
    Ld h_4 (a5.add 5) fun v4 => DSl v4 fun x9a x9l x9c =>
    IdxA x9a x9l d0 4 fun a6 =>
    Ld h_4 (a6.add 3) fun v5 => DSl v5 fun x10a x10l x10c =>
    Ld h_4 ((Addr.mk b0 0 none).add 0) fun c4 =>
    Ld h_4 ((Addr.mk b0 0 none).add 1) fun c5 =>
    Ld h_4 ((Addr.mk b0 0 none).add 2) fun c6 =>
    Ld h_4 ((Addr.mk b0 0 none).add 3) fun c7 =>
    ∃ (x11 : Int), ∃ (x12 : ByteArray), ∃ (x13 : ByteArray), ∃ (x14 : Int), (Value.agg #[c4, c5, c6, c7]) = .agg #[.int .i64 x11, .string x12, .string x13, .int .i64 x14] ∧
    (Al h_4 (.cells #[] 154) fun b1 h_5 =>
    (SameV (some (.pointer f0)) (.pointer f0)) ∧
    (NN' f0 fun a7 =>
    SameV (some (.pointer (some a4))) (.pointer (some a7))) ∧
    (SameV (some (.pointer (some (a4.add 5)))) (.pointer (some (a4.add 5)))) ∧
    (Ld h_5 (a4.add 5) fun v6 => DSl v6 fun x15a x15l x15c =>
    SameV (some (.slice x8a x8l x8c)) (.slice x15a x15l x15c)) ∧
    (SameV (some (.int .i64 d0)) (.int .i64 d0)) ∧
    (SameV (some (.pointer f0)) (.pointer f0)) ∧
    (NN' f0 fun a8 =>
    SameV (some (.pointer (some a5))) (.pointer (some a8))) ∧
    (SameV (some (.pointer (some (a5.add 5)))) (.pointer (some (a5.add 5)))) ∧
    (Ld h_5 (a5.add 5) fun v7 => DSl v7 fun x16a x16l x16c =>
    SameV (some (.slice x9a x9l x9c)) (.slice x16a x16l x16c)) ∧
    (SameV (some (.int .i64 d0)) (.int .i64 d0)) ∧
    (IdxA x9a x9l d0 4 fun a9 =>
    SameV (some (.pointer (some a6))) (.pointer (some a9))) ∧
    (SameV (some (.pointer (some (a6.add 3)))) (.pointer (some (a6.add 3)))) ∧
    (Ld h_5 (a6.add 3) fun v8 => DSl v8 fun x17a x17l x17c =>
    SameV (some (.slice x10a x10l x10c)) (.slice x17a x17l x17c)) ∧
    (Ld h_5 ((Addr.mk b0 0 none).add 0) fun c8 =>
    Ld h_5 ((Addr.mk b0 0 none).add 1) fun c9 =>
    Ld h_5 ((Addr.mk b0 0 none).add 2) fun c10 =>
    Ld h_5 ((Addr.mk b0 0 none).add 3) fun c11 =>
    ∃ (x18 : Int), ∃ (x19 : ByteArray), ∃ (x20 : ByteArray), ∃ (x21 : Int), (Value.agg #[c8, c9, c10, c11]) = .agg #[.int .i64 x18, .string x19, .string x20, .int .i64 x21] ∧
    SameV (some (.agg #[.int .i64 x11, .string x12, .string x13, .int .i64 x14])) (.agg #[.int .i64 x18, .string x19, .string x20, .int .i64 x21])) ∧
    (RunH Try.prog (Builtin.append_ #[119, 119] 119 #[.slice (some (Addr.mk b1 0 none)) 0 0, .slice x10a x10l x10c]) h_5 fun r6 h_6 =>
    DSl r6 fun x22a x22l x22c =>
    (SameV (some (.pointer f0)) (.pointer f0)) ∧
    (NN' f0 fun a10 =>
    SameV (some (.pointer (some a4))) (.pointer (some a10))) ∧
    (SameV (some (.pointer (some (a4.add 5)))) (.pointer (some (a4.add 5)))) ∧
    (Ld h_6 (a4.add 5) fun v9 => DSl v9 fun x23a x23l x23c =>
    SameV (some (.slice x8a x8l x8c)) (.slice x23a x23l x23c)) ∧
    (SameV (some (.int .i64 d0)) (.int .i64 d0)) ∧
    (Ld h_6 ((Addr.mk b0 0 none).add 0) fun c12 =>
    Ld h_6 ((Addr.mk b0 0 none).add 1) fun c13 =>
    Ld h_6 ((Addr.mk b0 0 none).add 2) fun c14 =>
    Ld h_6 ((Addr.mk b0 0 none).add 3) fun c15 =>
    ∃ (x24 : Int), ∃ (x25 : ByteArray), ∃ (x26 : ByteArray), ∃ (x27 : Int), (Value.agg #[c12, c13, c14, c15]) = .agg #[.int .i64 x24, .string x25, .string x26, .int .i64 x27] ∧
    SameV (some (.agg #[.int .i64 x11, .string x12, .string x13, .int .i64 x14])) (.agg #[.int .i64 x24, .string x25, .string x26, .int .i64 x27])) ∧
    Al h_6 (.cells #[.int .i64 x11, .string x12, .string x13, .int .i64 x14] 154) fun b2 h_7 =>
    (SameV (some (.pointer f0)) (.pointer f0)) ∧
    (NN' f0 fun a11 =>
    SameV (some (.pointer (some a4))) (.pointer (some a11))) ∧
    (SameV (some (.pointer (some (a4.add 5)))) (.pointer (some (a4.add 5)))) ∧
    (Ld h_7 (a4.add 5) fun v10 => DSl v10 fun x28a x28l x28c =>
    SameV (some (.slice x8a x8l x8c)) (.slice x28a x28l x28c)) ∧
    (SameV (some (.int .i64 d0)) (.int .i64 d0)) ∧
    (SameV (some (.pointer f0)) (.pointer f0)) ∧
    (NN' f0 fun a12 =>
    SameV (some (.pointer (some a5))) (.pointer (some a12))) ∧
    (SameV (some (.pointer (some (a5.add 5)))) (.pointer (some (a5.add 5)))) ∧
    (Ld h_7 (a5.add 5) fun v11 => DSl v11 fun x29a x29l x29c =>
    SameV (some (.slice x9a x9l x9c)) (.slice x29a x29l x29c)) ∧
    (SameV (some (.int .i64 d0)) (.int .i64 d0)) ∧
    (IdxA x9a x9l d0 4 fun a13 =>
    SameV (some (.pointer (some a6))) (.pointer (some a13))) ∧
    (SameV (some (.pointer (some (a6.add 3)))) (.pointer (some (a6.add 3)))) ∧
    (Ld h_7 (a6.add 3) fun v12 => DSl v12 fun x30a x30l x30c =>
    SameV (some (.slice x10a x10l x10c)) (.slice x30a x30l x30c)) ∧
    RunH Try.prog (Builtin.append_ #[119, 119] 119 #[.slice x22a x22l x22c, .slice (some (Addr.mk b2 0 none)) 1 1]) h_7 fun r8 h_8 =>
    DSl r8 fun x31a x31l x31c =>
    (SameV (some (.pointer f0)) (.pointer f0)) ∧
    (NN' f0 fun a14 =>
    SameV (some (.pointer (some a4))) (.pointer (some a14))) ∧
    (SameV (some (.pointer (some (a4.add 5)))) (.pointer (some (a4.add 5)))) ∧
    (Ld h_8 (a4.add 5) fun v13 => DSl v13 fun x32a x32l x32c =>
    SameV (some (.slice x8a x8l x8c)) (.slice x32a x32l x32c)) ∧
    (SameV (some (.int .i64 d0)) (.int .i64 d0)) ∧
    IdxA x8a x8l d0 4 fun a15 =>
    StC h_8 ((a15.add 3).add 0) (.slice x31a x31l x31c) fun h_10 =>
    Q (.int .i64 e0) h_10) ∧
    (Al h_5 (.cells #[.int .i64 x11, .string x12, .string x13, .int .i64 x14] 154) fun b3 h_11 =>
    (SameV (some (.pointer f0)) (.pointer f0)) ∧
    (NN' f0 fun a16 =>
    SameV (some (.pointer (some a4))) (.pointer (some a16))) ∧
    (SameV (some (.pointer (some (a4.add 5)))) (.pointer (some (a4.add 5)))) ∧
    (Ld h_11 (a4.add 5) fun v14 => DSl v14 fun x33a x33l x33c =>
    SameV (some (.slice x8a x8l x8c)) (.slice x33a x33l x33c)) ∧
    (SameV (some (.int .i64 d0)) (.int .i64 d0)) ∧
    (SameV (some (.pointer f0)) (.pointer f0)) ∧
    (NN' f0 fun a17 =>
    SameV (some (.pointer (some a5))) (.pointer (some a17))) ∧
    (SameV (some (.pointer (some (a5.add 5)))) (.pointer (some (a5.add 5)))) ∧
    (Ld h_11 (a5.add 5) fun v15 => DSl v15 fun x34a x34l x34c =>
    SameV (some (.slice x9a x9l x9c)) (.slice x34a x34l x34c)) ∧
    (SameV (some (.int .i64 d0)) (.int .i64 d0)) ∧
    (IdxA x9a x9l d0 4 fun a18 =>
    SameV (some (.pointer (some a6))) (.pointer (some a18))) ∧
    (SameV (some (.pointer (some (a6.add 3)))) (.pointer (some (a6.add 3)))) ∧
    (Ld h_11 (a6.add 3) fun v16 => DSl v16 fun x35a x35l x35c =>
    SameV (some (.slice x10a x10l x10c)) (.slice x35a x35l x35c)) ∧
    RunH Try.prog (Builtin.append_ #[119, 119] 119 #[.slice (some (Addr.mk b1 0 none)) 0 0, .slice x10a x10l x10c]) h_11 fun r11 h_12 =>
    DSl r11 fun x36a x36l x36c =>
    (SameV (some (.pointer f0)) (.pointer f0)) ∧
    (NN' f0 fun a19 =>
    SameV (some (.pointer (some a4))) (.pointer (some a19))) ∧
    (SameV (some (.pointer (some (a4.add 5)))) (.pointer (some (a4.add 5)))) ∧
    (Ld h_12 (a4.add 5) fun v17 => DSl v17 fun x37a x37l x37c =>
    SameV (some (.slice x8a x8l x8c)) (.slice x37a x37l x37c)) ∧
    (SameV (some (.int .i64 d0)) (.int .i64 d0)) ∧
    (Ld h_12 ((Addr.mk b0 0 none).add 0) fun c16 =>
    Ld h_12 ((Addr.mk b0 0 none).add 1) fun c17 =>
    Ld h_12 ((Addr.mk b0 0 none).add 2) fun c18 =>
    Ld h_12 ((Addr.mk b0 0 none).add 3) fun c19 =>
    ∃ (x38 : Int), ∃ (x39 : ByteArray), ∃ (x40 : ByteArray), ∃ (x41 : Int), (Value.agg #[c16, c17, c18, c19]) = .agg #[.int .i64 x38, .string x39, .string x40, .int .i64 x41] ∧
    SameV (some (.agg #[.int .i64 x11, .string x12, .string x13, .int .i64 x14])) (.agg #[.int .i64 x38, .string x39, .string x40, .int .i64 x41])) ∧
    RunH Try.prog (Builtin.append_ #[119, 119] 119 #[.slice x36a x36l x36c, .slice (some (Addr.mk b3 0 none)) 1 1]) h_12 fun r12 h_13 =>
    DSl r12 fun x42a x42l x42c =>
    (SameV (some (.pointer f0)) (.pointer f0)) ∧
    (NN' f0 fun a20 =>
    SameV (some (.pointer (some a4))) (.pointer (some a20))) ∧
    (SameV (some (.pointer (some (a4.add 5)))) (.pointer (some (a4.add 5)))) ∧
    (Ld h_13 (a4.add 5) fun v18 => DSl v18 fun x43a x43l x43c =>
    SameV (some (.slice x8a x8l x8c)) (.slice x43a x43l x43c)) ∧
    (SameV (some (.int .i64 d0)) (.int .i64 d0)) ∧
    IdxA x8a x8l d0 4 fun a21 =>
    StC h_13 ((a21.add 3).add 0) (.slice x42a x42l x42c) fun h_15 =>
    Q (.int .i64 e0) h_15)) ∧
    (Al h_4 (.cells #[.int .i64 x11, .string x12, .string x13, .int .i64 x14] 154) fun b4 h_16 =>
    (SameV (some (.pointer f0)) (.pointer f0)) ∧
    (NN' f0 fun a22 =>
    SameV (some (.pointer (some a4))) (.pointer (some a22))) ∧
    (SameV (some (.pointer (some (a4.add 5)))) (.pointer (some (a4.add 5)))) ∧
    (Ld h_16 (a4.add 5) fun v19 => DSl v19 fun x44a x44l x44c =>
    SameV (some (.slice x8a x8l x8c)) (.slice x44a x44l x44c)) ∧
    (SameV (some (.int .i64 d0)) (.int .i64 d0)) ∧
    (SameV (some (.pointer f0)) (.pointer f0)) ∧
    (NN' f0 fun a23 =>
    SameV (some (.pointer (some a5))) (.pointer (some a23))) ∧
    (SameV (some (.pointer (some (a5.add 5)))) (.pointer (some (a5.add 5)))) ∧
    (Ld h_16 (a5.add 5) fun v20 => DSl v20 fun x45a x45l x45c =>
    SameV (some (.slice x9a x9l x9c)) (.slice x45a x45l x45c)) ∧
    (SameV (some (.int .i64 d0)) (.int .i64 d0)) ∧
    (IdxA x9a x9l d0 4 fun a24 =>
    SameV (some (.pointer (some a6))) (.pointer (some a24))) ∧
    (SameV (some (.pointer (some (a6.add 3)))) (.pointer (some (a6.add 3)))) ∧
    (Ld h_16 (a6.add 3) fun v21 => DSl v21 fun x46a x46l x46c =>
    SameV (some (.slice x10a x10l x10c)) (.slice x46a x46l x46c)) ∧
    Al h_16 (.cells #[] 154) fun b5 h_17 =>
    (SameV (some (.pointer f0)) (.pointer f0)) ∧
    (NN' f0 fun a25 =>
    SameV (some (.pointer (some a4))) (.pointer (some a25))) ∧
    (SameV (some (.pointer (some (a4.add 5)))) (.pointer (some (a4.add 5)))) ∧
    (Ld h_17 (a4.add 5) fun v22 => DSl v22 fun x47a x47l x47c =>
    SameV (some (.slice x8a x8l x8c)) (.slice x47a x47l x47c)) ∧
    (SameV (some (.int .i64 d0)) (.int .i64 d0)) ∧
    (SameV (some (.pointer f0)) (.pointer f0)) ∧
    (NN' f0 fun a26 =>
    SameV (some (.pointer (some a5))) (.pointer (some a26))) ∧
    (SameV (some (.pointer (some (a5.add 5)))) (.pointer (some (a5.add 5)))) ∧
    (Ld h_17 (a5.add 5) fun v23 => DSl v23 fun x48a x48l x48c =>
    SameV (some (.slice x9a x9l x9c)) (.slice x48a x48l x48c)) ∧
    (SameV (some (.int .i64 d0)) (.int .i64 d0)) ∧
    (IdxA x9a x9l d0 4 fun a27 =>
    SameV (some (.pointer (some a6))) (.pointer (some a27))) ∧
    (SameV (some (.pointer (some (a6.add 3)))) (.pointer (some (a6.add 3)))) ∧
    (Ld h_17 (a6.add 3) fun v24 => DSl v24 fun x49a x49l x49c =>
    SameV (some (.slice x10a x10l x10c)) (.slice x49a x49l x49c)) ∧
    (Ld h_17 ((Addr.mk b0 0 none).add 0) fun c20 =>
    Ld h_17 ((Addr.mk b0 0 none).add 1) fun c21 =>
    Ld h_17 ((Addr.mk b0 0 none).add 2) fun c22 =>
    Ld h_17 ((Addr.mk b0 0 none).add 3) fun c23 =>
    ∃ (x50 : Int), ∃ (x51 : ByteArray), ∃ (x52 : ByteArray), ∃ (x53 : Int), (Value.agg #[c20, c21, c22, c23]) = .agg #[.int .i64 x50, .string x51, .string x52, .int .i64 x53] ∧
    SameV (some (.agg #[.int .i64 x11, .string x12, .string x13, .int .i64 x14])) (.agg #[.int .i64 x50, .string x51, .string x52, .int .i64 x53])) ∧
    RunH Try.prog (Builtin.append_ #[119, 119] 119 #[.slice (some (Addr.mk b5 0 none)) 0 0, .slice x10a x10l x10c]) h_17 fun r16 h_18 =>
    DSl r16 fun x54a x54l x54c =>
    (SameV (some (.pointer f0)) (.pointer f0)) ∧
    (NN' f0 fun a28 =>
    SameV (some (.pointer (some a4))) (.pointer (some a28))) ∧
    (SameV (some (.pointer (some (a4.add 5)))) (.pointer (some (a4.add 5)))) ∧
    (Ld h_18 (a4.add 5) fun v25 => DSl v25 fun x55a x55l x55c =>
    SameV (some (.slice x8a x8l x8c)) (.slice x55a x55l x55c)) ∧
    (SameV (some (.int .i64 d0)) (.int .i64 d0)) ∧
    (Ld h_18 ((Addr.mk b0 0 none).add 0) fun c24 =>
    Ld h_18 ((Addr.mk b0 0 none).add 1) fun c25 =>
    Ld h_18 ((Addr.mk b0 0 none).add 2) fun c26 =>
    Ld h_18 ((Addr.mk b0 0 none).add 3) fun c27 =>
    ∃ (x56 : Int), ∃ (x57 : ByteArray), ∃ (x58 : ByteArray), ∃ (x59 : Int), (Value.agg #[c24, c25, c26, c27]) = .agg #[.int .i64 x56, .string x57, .string x58, .int .i64 x59] ∧
    SameV (some (.agg #[.int .i64 x11, .string x12, .string x13, .int .i64 x14])) (.agg #[.int .i64 x56, .string x57, .string x58, .int .i64 x59])) ∧
    RunH Try.prog (Builtin.append_ #[119, 119] 119 #[.slice x54a x54l x54c, .slice (some (Addr.mk b4 0 none)) 1 1]) h_18 fun r17 h_19 =>
    DSl r17 fun x60a x60l x60c =>
    (SameV (some (.pointer f0)) (.pointer f0)) ∧
    (NN' f0 fun a29 =>
    SameV (some (.pointer (some a4))) (.pointer (some a29))) ∧
    (SameV (some (.pointer (some (a4.add 5)))) (.pointer (some (a4.add 5)))) ∧
    (Ld h_19 (a4.add 5) fun v26 => DSl v26 fun x61a x61l x61c =>
    SameV (some (.slice x8a x8l x8c)) (.slice x61a x61l x61c)) ∧
    (SameV (some (.int .i64 d0)) (.int .i64 d0)) ∧
    IdxA x8a x8l d0 4 fun a30 =>
    StC h_19 ((a30.add 3).add 0) (.slice x60a x60l x60c) fun h_21 =>
    Q (.int .i64 e0) h_21)
  else
    Q (.int .i64 e0) h_1)
theorem F115_eq : (fun (f0 : Option Addr) (d0 : Int) (o0 : Int) (o1 : ByteArray) (o2 : ByteArray) (o3 : Int) (h : Heap) (Q : Value → Heap → Prop) => fnPT Try.prog Try.f115 (fun _ => annNil) (fun _ => []) (fun i => bif Nat.beq i 3 then some ⟨[0, 1, 3, 7, 0, 0, 32, 96, 224, 0, 992, 2016, 4064, 0, 16352, 32767, 65535, 131071], 131072⟩ else bif Nat.beq i 4 then some ⟨[0, 1, 3, 7, 0, 0, 0, 64, 192, 448, 0, 1984, 4032, 8128, 16352, 0, 32768, 131040, 262143, 524287, 1048575], 1261600⟩ else none) [.pointer f0, .int .i64 d0, .agg #[.int .i64 o0, .string o1, .string o2, .int .i64 o3]] h Q) = F115 := by kernel_rfl
theorem F115_ok {f0 : Option Addr} {d0 : Int} {o0 : Int} {o1 : ByteArray} {o2 : ByteArray} {o3 : Int} {h : Heap} {Q : Value → Heap → Prop} (H : F115 f0 d0 o0 o1 o2 o3 h Q) : CallsH Try.prog 115 [.pointer f0, .int .i64 d0, .agg #[.int .i64 o0, .string o1, .string o2, .int .i64 o3]] h Q :=
  callsH_of (ann := fun _ => annNil) (tys := fun _ => []) (pl := fun i => bif Nat.beq i 3 then some ⟨[0, 1, 3, 7, 0, 0, 32, 96, 224, 0, 992, 2016, 4064, 0, 16352, 32767, 65535, 131071], 131072⟩ else bif Nat.beq i 4 then some ⟨[0, 1, 3, 7, 0, 0, 0, 64, 192, 448, 0, 1984, 4032, 8128, 16352, 0, 32768, 131040, 262143, 524287, 1048575], 1261600⟩ else none) Try.func115 (by kernel_rfl) (by have e := F115_eq; exact (congrFun (congrFun (congrFun (congrFun (congrFun (congrFun (congrFun (congrFun (e) f0) d0) o0) o1) o2) o3) h) Q).symm ▸ H)

/-- (*headgate/headgateref06.FS).entry -/
def F116 (f0 : Option Addr) (dir0 : ByteArray) (name0 : ByteArray) (h : Heap) (Q : Value → Heap → Prop) : Prop :=
  CallsH Try.prog 112 [.pointer f0, .string dir0, .string name0, .string name0] h fun r0 h_0 =>
  ∃ (x0 : Int), ∃ (x1 : Int), r0 = .tuple #[.int .i64 x0, .int .i64 x1] ∧
  (bif (x1 : Int) != 0 then
    Q (.tuple #[.int .i64 (-1), .int .i64 (-1), .int .i64 x1]) h_0
  else
    NN' f0 fun a0 =>
    Ld h_0 (a0.add 5) fun v0 => DSl v0 fun x2a x2l x2c =>
    IdxA x2a x2l x0 4 fun a1 =>
    Ld h_0 (a1.add 1) fun v1 => DSl v1 fun x3a x3l x3c =>
    CallsH Try.prog 114 [.slice x3a x3l x3c, .string name0] h_0 fun r1 h_1 =>
    DI .i64 r1 fun x4 =>
    (bif decide ((x4 : Int) < 0) then
      Q (.tuple #[.int .i64 (-1), .int .i64 (-1), .int .i64 62]) h_1
    else
      Q (.tuple #[.int .i64 x0, .int .i64 x4, .int .i64 0]) h_1))
theorem F116_eq : (fun (f0 : Option Addr) (dir0 : ByteArray) (name0 : ByteArray) (h : Heap) (Q : Value → Heap → Prop) => fnPT Try.prog Try.f116 (fun _ => annNil) (fun _ => []) (fun _ => none) [.pointer f0, .string dir0, .string name0] h Q) = F116 := by kernel_rfl
theorem F116_ok {f0 : Option Addr} {dir0 : ByteArray} {name0 : ByteArray} {h : Heap} {Q : Value → Heap → Prop} (H : F116 f0 dir0 name0 h Q) : CallsH Try.prog 116 [.pointer f0, .string dir0, .string name0] h Q :=
  callsH_of (ann := fun _ => annNil) (tys := fun _ => []) (pl := fun _ => none) Try.func116 (by kernel_rfl) (by have e := F116_eq; exact (congrFun (congrFun (congrFun (congrFun (congrFun (e) f0) dir0) name0) h) Q).symm ▸ H)

/-- headgate/headgateref06.pick -/
def F117 (l_0a : Option Addr) (l_0l : Nat) (l_0c : Nat) (n0 : Int) (h : Heap) (Q : Value → Heap → Prop) : Prop :=
  (bif ((l_0l : Int) : Int) == 0 then
    Q (.tuple #[.int .i64 0, .slice l_0a l_0l l_0c]) h
  else
    IdxA l_0a l_0l 0 1 fun a0 =>
    Ld h a0 fun v0 => DI .i64 v0 fun x0 =>
    ((IntKind.wrap .u64 (IntKind.wrap .i64 (n0 + 1))) : Int) ≠ 0 ∧
    SlV l_0a l_0c 1 1 (l_0l : Int) (l_0c : Int) fun s0a s0l s0c =>
    Q (.tuple #[.int .i64 (IntKind.wrap .i64 (Int.tmod (IntKind.wrap .u64 x0) (IntKind.wrap .u64 (IntKind.wrap .i64 (n0 + 1))))), .slice s0a s0l s0c]) h)
theorem F117_eq : (fun (l_0a : Option Addr) (l_0l : Nat) (l_0c : Nat) (n0 : Int) (h : Heap) (Q : Value → Heap → Prop) => fnPT Try.prog Try.f117 (fun _ => annNil) (fun _ => []) (fun _ => none) [.slice l_0a l_0l l_0c, .int .i64 n0] h Q) = F117 := by kernel_rfl
theorem F117_ok {l_0a : Option Addr} {l_0l : Nat} {l_0c : Nat} {n0 : Int} {h : Heap} {Q : Value → Heap → Prop} (H : F117 l_0a l_0l l_0c n0 h Q) : CallsH Try.prog 117 [.slice l_0a l_0l l_0c, .int .i64 n0] h Q :=
  callsH_of (ann := fun _ => annNil) (tys := fun _ => []) (pl := fun _ => none) Try.func117 (by kernel_rfl) (by have e := F117_eq; exact (congrFun (congrFun (congrFun (congrFun (congrFun (congrFun (e) l_0a) l_0l) l_0c) n0) h) Q).symm ▸ H)

/-- headgate/headgateref06.does -/
def F118 (l_0a : Option Addr) (l_0l : Nat) (l_0c : Nat) (o0 : Int) (o1 : ByteArray) (o2 : ByteArray) (o3 : Int) (h : Heap) (Q : Value → Heap → Prop) : Prop :=
  Al h (.cells #[.int .i64 o0, .string o1, .string o2, .int .i64 o3] 154) fun b0 h_0 =>
  Ld h_0 ((Addr.mk b0 0 none).add 0) fun v0 => DI .i64 v0 fun x0 =>
  (bif (x0 : Int) == 1 then
    Ld h_0 ((Addr.mk b0 0 none).add 1) fun v1 => DS v1 fun x1 =>
    Ld h_0 ((Addr.mk b0 0 none).add 3) fun v2 => DI .i64 v2 fun x2 =>
    CallsH Try.prog 120 [.slice l_0a l_0l l_0c, .string x1, .int .i64 x2] h_0 fun r1 h_1 =>
    DSl r1 fun x3a x3l x3c =>
    Q (.slice x3a x3l x3c) h_1
  else
    (bif (x0 : Int) == 2 then
      Ld h_0 ((Addr.mk b0 0 none).add 1) fun v3 => DS v3 fun x4 =>
      CallsH Try.prog 114 [.slice l_0a l_0l l_0c, .string x4] h_0 fun r2 h_2 =>
      DI .i64 r2 fun x5 =>
      Ld h_2 ((Addr.mk b0 0 none).add 1) fun v4 => DS v4 fun x6 =>
      ∃ r4, (CallsH Try.prog 137 [.slice l_0a l_0l l_0c, .string x6] h_2 fun r3 h_3 =>
      r3 = r4 ∧ h_3 = h_2) ∧
      DSl r4 fun x7a x7l x7c =>
      Ld h_2 ((Addr.mk b0 0 none).add 2) fun v5 => DS v5 fun x8 =>
      ∃ r6, (CallsH Try.prog 120 [.slice x7a x7l x7c, .string x8, .int .i64 x5] h_2 fun r5 h_4 =>
      r5 = r6 ∧ h_4 = h_2) ∧
      DSl r6 fun x9a x9l x9c =>
      Q (.slice x9a x9l x9c) h_2
    else
      Ld h_0 ((Addr.mk b0 0 none).add 1) fun v6 => DS v6 fun x10 =>
      CallsH Try.prog 137 [.slice l_0a l_0l l_0c, .string x10] h_0 fun r7 h_5 =>
      DSl r7 fun x11a x11l x11c =>
      Q (.slice x11a x11l x11c) h_5))
theorem F118_eq : (fun (l_0a : Option Addr) (l_0l : Nat) (l_0c : Nat) (o0 : Int) (o1 : ByteArray) (o2 : ByteArray) (o3 : Int) (h : Heap) (Q : Value → Heap → Prop) => fnPT Try.prog Try.f118 (fun _ => annNil) (fun _ => []) (fun _ => none) [.slice l_0a l_0l l_0c, .agg #[.int .i64 o0, .string o1, .string o2, .int .i64 o3]] h Q) = F118 := by kernel_rfl
theorem F118_ok {l_0a : Option Addr} {l_0l : Nat} {l_0c : Nat} {o0 : Int} {o1 : ByteArray} {o2 : ByteArray} {o3 : Int} {h : Heap} {Q : Value → Heap → Prop} (H : F118 l_0a l_0l l_0c o0 o1 o2 o3 h Q) : CallsH Try.prog 118 [.slice l_0a l_0l l_0c, .agg #[.int .i64 o0, .string o1, .string o2, .int .i64 o3]] h Q :=
  callsH_of (ann := fun _ => annNil) (tys := fun _ => []) (pl := fun _ => none) Try.func118 (by kernel_rfl) (by have e := F118_eq; exact (congrFun (congrFun (congrFun (congrFun (congrFun (congrFun (congrFun (congrFun (congrFun (e) l_0a) l_0l) l_0c) o0) o1) o2) o3) h) Q).symm ▸ H)

/-- (*headgate/headgateref06.FS).named -/
def F119 (f0 : Option Addr) (dir0 : ByteArray) (a0 : ByteArray) (b0 : ByteArray) (h : Heap) (Q : Value → Heap → Prop) : Prop :=
  CallsH Try.prog 138 [.string dir0] h fun r0 h_0 =>
  DB r0 fun x0 =>
  (bif !x0 then
    Q (.tuple #[.int .i64 (-1), .int .i64 65]) h_0
  else
    CallsH Try.prog 138 [.string a0] h_0 fun r1 h_1 =>
    DB r1 fun x1 =>
    (bif !x1 then
      Q (.tuple #[.int .i64 (-1), .int .i64 65]) h_1
    else
      CallsH Try.prog 138 [.string b0] h_1 fun r2 h_2 =>
      DB r2 fun x2 =>
      (bif !x2 then
        Q (.tuple #[.int .i64 (-1), .int .i64 65]) h_2
      else
        CallsH Try.prog 139 [.pointer f0, .string dir0] h_2 fun r3 h_3 =>
        DI .i64 r3 fun d0 =>
        (bif decide ((d0 : Int) < 0) then
          Q (.tuple #[.int .i64 (-1), .int .i64 61]) h_3
        else
          Q (.tuple #[.int .i64 d0, .int .i64 0]) h_3))))
theorem F119_eq : (fun (f0 : Option Addr) (dir0 : ByteArray) (a0 : ByteArray) (b0 : ByteArray) (h : Heap) (Q : Value → Heap → Prop) => fnPT Try.prog Try.f119 (fun _ => annNil) (fun _ => []) (fun _ => none) [.pointer f0, .string dir0, .string a0, .string b0] h Q) = F119 := by kernel_rfl
theorem F119_ok {f0 : Option Addr} {dir0 : ByteArray} {a0 : ByteArray} {b0 : ByteArray} {h : Heap} {Q : Value → Heap → Prop} (H : F119 f0 dir0 a0 b0 h Q) : CallsH Try.prog 119 [.pointer f0, .string dir0, .string a0, .string b0] h Q :=
  callsH_of (ann := fun _ => annNil) (tys := fun _ => []) (pl := fun _ => none) Try.func119 (by kernel_rfl) (by have e := F119_eq; exact (congrFun (congrFun (congrFun (congrFun (congrFun (congrFun (e) f0) dir0) a0) b0) h) Q).symm ▸ H)

/-- headgate/headgateref06.set -/
def F120 (l_0a : Option Addr) (l_0l : Nat) (l_0c : Nat) (name0 : ByteArray) (file0 : Int) (h : Heap) (Q : Value → Heap → Prop) : Prop :=
  LoopH (fun again0 (s0 : Sl × Bool × Int) h_0 =>
    (bif decide ((s0.2.2 : Int) < (l_0l : Int)) then
      (bif !s0.2.1 then
        IdxA l_0a l_0l s0.2.2 2 fun a0 =>
        Ld h_0 (a0.add 0) fun v0 => DS v0 fun x0 =>
        (bif !strLt x0 name0 then
          Al h_0 (.cells #[.string name0, .int .i64 file0] 163) fun b0 h_1 =>
          RunH Try.prog (Builtin.append_ #[118, 118] 118 #[.slice s0.1.a s0.1.l s0.1.c, .slice (some (Addr.mk b0 0 none)) 1 1]) h_1 fun r1 h_2 =>
          DSl r1 fun out0a out0l out0c =>
          IdxA l_0a l_0l s0.2.2 2 fun a1 =>
          Ld h_2 (a1.add 0) fun v1 => DS v1 fun x1 =>
          (bif !strEq x1 name0 then
            IdxA l_0a l_0l s0.2.2 2 fun a2 =>
            Ld h_2 (a2.add 0) fun c0 =>
            Ld h_2 (a2.add 1) fun c1 =>
            ∃ (x2 : ByteArray), ∃ (x3 : Int), (Value.agg #[c0, c1]) = .agg #[.string x2, .int .i64 x3] ∧
            Al h_2 (.cells #[.string x2, .int .i64 x3] 163) fun b1 h_3 =>
            RunH Try.prog (Builtin.append_ #[118, 118] 118 #[.slice out0a out0l out0c, .slice (some (Addr.mk b1 0 none)) 1 1]) h_3 fun r3 h_4 =>
            DSl r3 fun out1a out1l out1c =>
            again0 (⟨out1a, out1l, out1c⟩, true, IntKind.wrap .i64 (s0.2.2 + 1)) h_4
          else
            again0 (⟨out0a, out0l, out0c⟩, true, IntKind.wrap .i64 (s0.2.2 + 1)) h_2)
        else
          IdxA l_0a l_0l s0.2.2 2 fun a3 =>
          Ld h_0 (a3.add 0) fun v2 => DS v2 fun x4 =>
          (bif !strEq x4 name0 then
            IdxA l_0a l_0l s0.2.2 2 fun a4 =>
            Ld h_0 (a4.add 0) fun c2 =>
            Ld h_0 (a4.add 1) fun c3 =>
            ∃ (x5 : ByteArray), ∃ (x6 : Int), (Value.agg #[c2, c3]) = .agg #[.string x5, .int .i64 x6] ∧
            Al h_0 (.cells #[.string x5, .int .i64 x6] 163) fun b2 h_5 =>
            RunH Try.prog (Builtin.append_ #[118, 118] 118 #[.slice s0.1.a s0.1.l s0.1.c, .slice (some (Addr.mk b2 0 none)) 1 1]) h_5 fun r5 h_6 =>
            DSl r5 fun out2a out2l out2c =>
            again0 (⟨out2a, out2l, out2c⟩, s0.2.1, IntKind.wrap .i64 (s0.2.2 + 1)) h_6
          else
            again0 (⟨s0.1.a, s0.1.l, s0.1.c⟩, s0.2.1, IntKind.wrap .i64 (s0.2.2 + 1)) h_0))
      else
        IdxA l_0a l_0l s0.2.2 2 fun a5 =>
        Ld h_0 (a5.add 0) fun v3 => DS v3 fun x7 =>
        (bif !strEq x7 name0 then
          IdxA l_0a l_0l s0.2.2 2 fun a6 =>
          Ld h_0 (a6.add 0) fun c4 =>
          Ld h_0 (a6.add 1) fun c5 =>
          ∃ (x8 : ByteArray), ∃ (x9 : Int), (Value.agg #[c4, c5]) = .agg #[.string x8, .int .i64 x9] ∧
          Al h_0 (.cells #[.string x8, .int .i64 x9] 163) fun b3 h_7 =>
          RunH Try.prog (Builtin.append_ #[118, 118] 118 #[.slice s0.1.a s0.1.l s0.1.c, .slice (some (Addr.mk b3 0 none)) 1 1]) h_7 fun r7 h_8 =>
          DSl r7 fun out3a out3l out3c =>
          again0 (⟨out3a, out3l, out3c⟩, s0.2.1, IntKind.wrap .i64 (s0.2.2 + 1)) h_8
        else
          again0 (⟨s0.1.a, s0.1.l, s0.1.c⟩, s0.2.1, IntKind.wrap .i64 (s0.2.2 + 1)) h_0))
    else
      (bif !s0.2.1 then
        Al h_0 (.cells #[.string name0, .int .i64 file0] 163) fun b4 h_9 =>
        RunH Try.prog (Builtin.append_ #[118, 118] 118 #[.slice s0.1.a s0.1.l s0.1.c, .slice (some (Addr.mk b4 0 none)) 1 1]) h_9 fun r9 h_10 =>
        DSl r9 fun out4a out4l out4c =>
        Q (.slice out4a out4l out4c) h_10
      else
        Q (.slice s0.1.a s0.1.l s0.1.c) h_0))) (⟨none, 0, 0⟩, false, 0) h
theorem F120_eq : (fun (l_0a : Option Addr) (l_0l : Nat) (l_0c : Nat) (name0 : ByteArray) (file0 : Int) (h : Heap) (Q : Value → Heap → Prop) => fnPT Try.prog Try.f120 (fun i => bif Nat.beq i 0 then annCons 7 (codSl) (annCons 8 (codB) (annOne 9 (codI .i64))) else annNil) (fun _ => []) (fun _ => none) [.slice l_0a l_0l l_0c, .string name0, .int .i64 file0] h Q) = F120 := by kernel_rfl
theorem F120_ok {l_0a : Option Addr} {l_0l : Nat} {l_0c : Nat} {name0 : ByteArray} {file0 : Int} {h : Heap} {Q : Value → Heap → Prop} (H : F120 l_0a l_0l l_0c name0 file0 h Q) : CallsH Try.prog 120 [.slice l_0a l_0l l_0c, .string name0, .int .i64 file0] h Q :=
  callsH_of (ann := fun i => bif Nat.beq i 0 then annCons 7 (codSl) (annCons 8 (codB) (annOne 9 (codI .i64))) else annNil) (tys := fun _ => []) (pl := fun _ => none) Try.func120 (by kernel_rfl) (by have e := F120_eq; exact (congrFun (congrFun (congrFun (congrFun (congrFun (congrFun (congrFun (e) l_0a) l_0l) l_0c) name0) file0) h) Q).symm ▸ H)

/-- maps.Keys[map[string]*headgate/simfs.folder,string,*headgate/simfs.folder]$1 -/
def F121 (yield0 : Value) (c0 : Addr) (h : Heap) (Q : Value → Heap → Prop) : Prop :=
  Ld h c0 fun v0 => DM v0 fun x0 =>
  RunH Try.prog (Instr.range 81 (.map x0)) h fun r0 h_0 =>
  DP r0 fun p0 =>
  LoopH (fun again0 (s0 : Unit) h_1 =>
    RunH Try.prog (Instr.next (.pointer p0) false 0) h_1 fun r1 h_2 =>
    (
      r1 = .tuple #[.bool false] ∧
      Q (.tuple #[]) h_2) ∨ (
      ∃ (k0 x1 : Value), r1 = .tuple #[.bool true, k0, x1] ∧
      RunH Try.prog (Instr.entry (.pointer p0)) h_2 fun r2 h_3 =>
      ∃ (x2 : ByteArray), ∃ (x3 : Value), r2 = .tuple #[.string x2, x3] ∧
      CallV Try.prog yield0 [.string x2] h_3 fun r3 h_4 =>
      DB r3 fun x4 =>
      (bif !x4 then
        Q (.tuple #[]) h_4
      else
        again0 () h_4))) () h_0
theorem F121_eq : (fun (yield0 : Value) (c0 : Addr) (h : Heap) (Q : Value → Heap → Prop) => fnPT Try.prog Try.f121 (fun i => bif Nat.beq i 0 then annNil else annNil) (fun i => bif Nat.beq i 1002 then [9, 0] else []) (fun _ => none) [yield0, .pointer (some c0)] h Q) = F121 := by kernel_rfl
theorem F121_ok {yield0 : Value} {c0 : Addr} {h : Heap} {Q : Value → Heap → Prop} (H : F121 yield0 c0 h Q) : CallsH Try.prog 121 [yield0, .pointer (some c0)] h Q :=
  callsH_of (ann := fun i => bif Nat.beq i 0 then annNil else annNil) (tys := fun i => bif Nat.beq i 1002 then [9, 0] else []) (pl := fun _ => none) Try.func121 (by kernel_rfl) (by have e := F121_eq; exact (congrFun (congrFun (congrFun (congrFun (e) yield0) c0) h) Q).symm ▸ H)

/-- headgate/frame.first -/
def F122 (b0a : Option Addr) (b0l : Nat) (b0c : Nat) (h : Heap) (Q : Value → Heap → Prop) : Prop :=
  (bif decide (((b0l : Int) : Int) < 8) then
    Q (.tuple #[.slice none 0 0, .bool false]) h
  else
    CallsH Try.prog 140 [.slice b0a b0l b0c] h fun r0 h_0 =>
    DI .u32 r0 fun n0 =>
    (bif decide ((n0 : Int) > 16777208) then
      Q (.tuple #[.slice none 0 0, .bool false]) h_0
    else
      (bif decide (((IntKind.wrap .i64 n0) : Int) > (IntKind.wrap .i64 ((b0l : Int) - 8))) then
        Q (.tuple #[.slice none 0 0, .bool false]) h_0
      else
        SlV b0a b0c 1 8 (IntKind.wrap .i64 (8 + (IntKind.wrap .i64 n0))) (b0c : Int) fun s0a s0l s0c =>
        SlV b0a b0c 1 4 (b0l : Int) (b0c : Int) fun s1a s1l s1c =>
        ∃ r2, (CallsH Try.prog 140 [.slice s1a s1l s1c] h_0 fun r1 h_1 =>
        r1 = r2 ∧ h_1 = h_0) ∧
        DI .u32 r2 fun x0 =>
        SlV b0a b0c 1 0 4 (b0c : Int) fun s2a s2l s2c =>
        ∃ r4, (CallsH Try.prog 127 [.slice s2a s2l s2c] h_0 fun r3 h_2 =>
        r3 = r4 ∧ h_2 = h_0) ∧
        DI .u32 r4 fun x1 =>
        ∃ r6, (CallsH Try.prog 126 [.int .u32 x1, .slice s0a s0l s0c] h_0 fun r5 h_3 =>
        r5 = r6 ∧ h_3 = h_0) ∧
        DI .u32 r6 fun x2 =>
        Q (.tuple #[.slice s0a s0l s0c, .bool ((x0 : Int) == x2)]) h_0)))
theorem F122_eq : (fun (b0a : Option Addr) (b0l : Nat) (b0c : Nat) (h : Heap) (Q : Value → Heap → Prop) => fnPT Try.prog Try.f122 (fun _ => annNil) (fun _ => []) (fun _ => none) [.slice b0a b0l b0c] h Q) = F122 := by kernel_rfl
theorem F122_ok {b0a : Option Addr} {b0l : Nat} {b0c : Nat} {h : Heap} {Q : Value → Heap → Prop} (H : F122 b0a b0l b0c h Q) : CallsH Try.prog 122 [.slice b0a b0l b0c] h Q :=
  callsH_of (ann := fun _ => annNil) (tys := fun _ => []) (pl := fun _ => none) Try.func122 (by kernel_rfl) (by have e := F122_eq; exact (congrFun (congrFun (congrFun (congrFun (congrFun (e) b0a) b0l) b0c) h) Q).symm ▸ H)

/-- headgate/place.unfinished$1 -/
def F123 (yield0 : Value) (c0 : Addr) (h : Heap) (Q : Value → Heap → Prop) : Prop :=
  Ld h c0 fun v0 => DSl v0 fun x0a x0l x0c =>
  LoopH (fun again0 (s0 : Int) h_0 =>
    (bif decide ((s0 : Int) < (x0l : Int)) then
      IdxA x0a x0l s0 1 fun a0 =>
      Ld h_0 a0 fun v1 => DS v1 fun s1 =>
      CallsH Try.prog 124 [.string s1, .string ⟨#[116, 109, 112, 46]⟩] h_0 fun r0 h_1 =>
      DB r0 fun x1 =>
      (bif x1 then
        CallV Try.prog yield0 [.string s1] h_1 fun r1 h_2 =>
        DB r1 fun x2 =>
        (bif !x2 then
          Q (.tuple #[]) h_2
        else
          again0 (IntKind.wrap .i64 (s0 + 1)) h_2)
      else
        again0 (IntKind.wrap .i64 (s0 + 1)) h_1)
    else
      Q (.tuple #[]) h_0)) 0 h
theorem F123_eq : (fun (yield0 : Value) (c0 : Addr) (h : Heap) (Q : Value → Heap → Prop) => fnPT Try.prog Try.f123 (fun i => bif Nat.beq i 0 then annOne 7 (codI .i64) else annNil) (fun _ => []) (fun _ => none) [yield0, .pointer (some c0)] h Q) = F123 := by kernel_rfl
theorem F123_ok {yield0 : Value} {c0 : Addr} {h : Heap} {Q : Value → Heap → Prop} (H : F123 yield0 c0 h Q) : CallsH Try.prog 123 [yield0, .pointer (some c0)] h Q :=
  callsH_of (ann := fun i => bif Nat.beq i 0 then annOne 7 (codI .i64) else annNil) (tys := fun _ => []) (pl := fun _ => none) Try.func123 (by kernel_rfl) (by have e := F123_eq; exact (congrFun (congrFun (congrFun (congrFun (e) yield0) c0) h) Q).symm ▸ H)

/-- strings.HasPrefix -/
def F124 (s0 : ByteArray) (prefix_0 : ByteArray) (h : Heap) (Q : Value → Heap → Prop) : Prop :=
  CallsH Try.prog 141 [.string s0, .string prefix_0] h fun r0 h_0 =>
  DB r0 fun x0 =>
  Q (.bool x0) h_0
theorem F124_eq : (fun (s0 : ByteArray) (prefix_0 : ByteArray) (h : Heap) (Q : Value → Heap → Prop) => fnPT Try.prog Try.f124 (fun _ => annNil) (fun _ => []) (fun _ => none) [.string s0, .string prefix_0] h Q) = F124 := by kernel_rfl
theorem F124_ok {s0 : ByteArray} {prefix_0 : ByteArray} {h : Heap} {Q : Value → Heap → Prop} (H : F124 s0 prefix_0 h Q) : CallsH Try.prog 124 [.string s0, .string prefix_0] h Q :=
  callsH_of (ann := fun _ => annNil) (tys := fun _ => []) (pl := fun _ => none) Try.func124 (by kernel_rfl) (by have e := F124_eq; exact (congrFun (congrFun (congrFun (congrFun (e) s0) prefix_0) h) Q).symm ▸ H)

/-- headgate/frame.word -/
def F125 (n0 : Int) (h : Heap) (Q : Value → Heap → Prop) : Prop :=
  0 ≤ (24 : Int) ∧
  0 ≤ (16 : Int) ∧
  0 ≤ (8 : Int) ∧
  Al h (.cells #[.int .u8 (IntKind.wrap .u8 (shrI .u32 n0 24)), .int .u8 (IntKind.wrap .u8 (shrI .u32 n0 16)), .int .u8 (IntKind.wrap .u8 (shrI .u32 n0 8)), .int .u8 (IntKind.wrap .u8 n0)] 5) fun b0 h_0 =>
  Q (.slice (some (Addr.mk b0 0 none)) 4 4) h_0
theorem F125_eq : (fun (n0 : Int) (h : Heap) (Q : Value → Heap → Prop) => fnPT Try.prog Try.f125 (fun _ => annNil) (fun _ => []) (fun _ => none) [.int .u32 n0] h Q) = F125 := by kernel_rfl
theorem F125_ok {n0 : Int} {h : Heap} {Q : Value → Heap → Prop} (H : F125 n0 h Q) : CallsH Try.prog 125 [.int .u32 n0] h Q :=
  callsH_of (ann := fun _ => annNil) (tys := fun _ => []) (pl := fun _ => none) Try.func125 (by kernel_rfl) (by have e := F125_eq; exact (congrFun (congrFun (congrFun (e) n0) h) Q).symm ▸ H)

/-- headgate/crc.More[[]byte] -/
def F126 (sum0 : Int) (b0a : Option Addr) (b0l : Nat) (b0c : Nat) (h : Heap) (Q : Value → Heap → Prop) : Prop :=
  LoopH (fun again0 (s0 : Int × Int) h_0 =>
    (bif decide ((s0.2 : Int) < (b0l : Int)) then
      IdxA b0a b0l s0.2 1 fun a0 =>
      Ld h_0 a0 fun v0 => DI .u8 v0 fun x0 =>
      LoopH (fun again1 (s1 : Int × Int) h_1 =>
        (bif decide ((s1.2 : Int) < 8) then
          0 ≤ (1 : Int) ∧
          again1 (bitsI .xor .u32 (shrI .u32 s1.1 1) (bitsI .and .u32 2197175160 (IntKind.wrap .u32 (0 - (bitsI .and .u32 s1.1 1)))), IntKind.wrap .i64 (s1.2 + 1)) h_1
        else
          again0 (s1.1, IntKind.wrap .i64 (s0.2 + 1)) h_1)) (bitsI .xor .u32 s0.1 (IntKind.wrap .u32 x0), 0) h_0
    else
      Q (.int .u32 (bitsI .xor .u32 4294967295 s0.1)) h_0)) (bitsI .xor .u32 4294967295 sum0, 0) h
theorem F126_eq : (fun (sum0 : Int) (b0a : Option Addr) (b0l : Nat) (b0c : Nat) (h : Heap) (Q : Value → Heap → Prop) => fnPT Try.prog Try.f126 (fun i => bif Nat.beq i 0 then annCons 5 (codI .u32) (annOne 11 (codI .i64)) else bif Nat.beq i 2 then annCons 5 (codI .u32) (annOne 21 (codI .i64)) else annNil) (fun _ => []) (fun _ => none) [.int .u32 sum0, .slice b0a b0l b0c] h Q) = F126 := by kernel_rfl
theorem F126_ok {sum0 : Int} {b0a : Option Addr} {b0l : Nat} {b0c : Nat} {h : Heap} {Q : Value → Heap → Prop} (H : F126 sum0 b0a b0l b0c h Q) : CallsH Try.prog 126 [.int .u32 sum0, .slice b0a b0l b0c] h Q :=
  callsH_of (ann := fun i => bif Nat.beq i 0 then annCons 5 (codI .u32) (annOne 11 (codI .i64)) else bif Nat.beq i 2 then annCons 5 (codI .u32) (annOne 21 (codI .i64)) else annNil) (tys := fun _ => []) (pl := fun _ => none) Try.func126 (by kernel_rfl) (by have e := F126_eq; exact (congrFun (congrFun (congrFun (congrFun (congrFun (congrFun (e) sum0) b0a) b0l) b0c) h) Q).symm ▸ H)

/-- headgate/crc.Of[[]byte] -/
def F127 (b0a : Option Addr) (b0l : Nat) (b0c : Nat) (h : Heap) (Q : Value → Heap → Prop) : Prop :=
  CallsH Try.prog 126 [.int .u32 0, .slice b0a b0l b0c] h fun r0 h_0 =>
  DI .u32 r0 fun x0 =>
  Q (.int .u32 x0) h_0
theorem F127_eq : (fun (b0a : Option Addr) (b0l : Nat) (b0c : Nat) (h : Heap) (Q : Value → Heap → Prop) => fnPT Try.prog Try.f127 (fun _ => annNil) (fun _ => []) (fun _ => none) [.slice b0a b0l b0c] h Q) = F127 := by kernel_rfl
theorem F127_ok {b0a : Option Addr} {b0l : Nat} {b0c : Nat} {h : Heap} {Q : Value → Heap → Prop} (H : F127 b0a b0l b0c h Q) : CallsH Try.prog 127 [.slice b0a b0l b0c] h Q :=
  callsH_of (ann := fun _ => annNil) (tys := fun _ => []) (pl := fun _ => none) Try.func127 (by kernel_rfl) (by have e := F127_eq; exact (congrFun (congrFun (congrFun (congrFun (congrFun (e) b0a) b0l) b0c) h) Q).symm ▸ H)

/-- slices.Index[[]string,string] -/
def F128 (s0a : Option Addr) (s0l : Nat) (s0c : Nat) (v0 : ByteArray) (h : Heap) (Q : Value → Heap → Prop) : Prop :=
  LoopH (fun again0 (s1 : Int) h_0 =>
    (bif decide ((s1 : Int) < (s0l : Int)) then
      IdxA s0a s0l s1 1 fun a0 =>
      Ld h_0 a0 fun v1 => DS v1 fun x0 =>
      (bif strEq v0 x0 then
        Q (.int .i64 s1) h_0
      else
        again0 (IntKind.wrap .i64 (s1 + 1)) h_0)
    else
      Q (.int .i64 (-1)) h_0)) 0 h
theorem F128_eq : (fun (s0a : Option Addr) (s0l : Nat) (s0c : Nat) (v0 : ByteArray) (h : Heap) (Q : Value → Heap → Prop) => fnPT Try.prog Try.f128 (fun i => bif Nat.beq i 0 then annOne 8 (codI .i64) else annNil) (fun _ => []) (fun _ => none) [.slice s0a s0l s0c, .string v0] h Q) = F128 := by kernel_rfl
theorem F128_ok {s0a : Option Addr} {s0l : Nat} {s0c : Nat} {v0 : ByteArray} {h : Heap} {Q : Value → Heap → Prop} (H : F128 s0a s0l s0c v0 h Q) : CallsH Try.prog 128 [.slice s0a s0l s0c, .string v0] h Q :=
  callsH_of (ann := fun i => bif Nat.beq i 0 then annOne 8 (codI .i64) else annNil) (tys := fun _ => []) (pl := fun _ => none) Try.func128 (by kernel_rfl) (by have e := F128_eq; exact (congrFun (congrFun (congrFun (congrFun (congrFun (congrFun (e) s0a) s0l) s0c) v0) h) Q).symm ▸ H)

/-- internal/stringslite.IndexByte -/
def F129 (s0 : ByteArray) (c0 : Int) (h : Heap) (Q : Value → Heap → Prop) : Prop :=
  CallsH Try.prog 142 [.string s0, .int .u8 c0] h fun r0 h_0 =>
  DI .i64 r0 fun x0 =>
  Q (.int .i64 x0) h_0
theorem F129_eq : (fun (s0 : ByteArray) (c0 : Int) (h : Heap) (Q : Value → Heap → Prop) => fnPT Try.prog Try.f129 (fun _ => annNil) (fun _ => []) (fun _ => none) [.string s0, .int .u8 c0] h Q) = F129 := by kernel_rfl
theorem F129_ok {s0 : ByteArray} {c0 : Int} {h : Heap} {Q : Value → Heap → Prop} (H : F129 s0 c0 h Q) : CallsH Try.prog 129 [.string s0, .int .u8 c0] h Q :=
  callsH_of (ann := fun _ => annNil) (tys := fun _ => []) (pl := fun _ => none) Try.func129 (by kernel_rfl) (by have e := F129_eq; exact (congrFun (congrFun (congrFun (congrFun (e) s0) c0) h) Q).symm ▸ H)

/-- (*headgate/segment.Log).drop -/
def F130 (l_0 : Option Addr) (gone0a : Option Addr) (gone0l : Nat) (gone0c : Nat) (h : Heap) (Q : Value → Heap → Prop) : Prop :=
  LoopH (fun again0 (s0 : Int) h_0 =>
    (bif decide ((s0 : Int) < (gone0l : Int)) then
      IdxA gone0a gone0l s0 1 fun a0 =>
      Ld h_0 a0 fun v0 => DI .i64 v0 fun n0 =>
      NN' l_0 fun a1 =>
      Ld h_0 (a1.add 0) fun v1 => DP v1 fun x0 =>
      NN' l_0 fun a2 =>
      Ld h_0 (a2.add 1) fun v2 => DS v2 fun x1 =>
      ∃ r1, (CallsH Try.prog 103 [.int .i64 n0] h_0 fun r0 h_1 =>
      r0 = r1 ∧ h_1 = h_0) ∧
      DS r1 fun x2 =>
      ∃ r3, (CallsH Try.prog 29 [.pointer x0, .string x1, .string x2] h_0 fun r2 h_2 =>
      r2 = r3 ∧ h_2 = h_0) ∧
      DI .i64 r3 fun e0 =>
      (bif (e0 : Int) != 0 then
        Q (.int .i64 e0) h_0
      else
        again0 (IntKind.wrap .i64 (s0 + 1)) h_0)
    else
      (bif ((gone0l : Int) : Int) == 0 then
        Q (.int .i64 0) h_0
      else
        NN' l_0 fun a3 =>
        Ld h_0 (a3.add 0) fun v3 => DP v3 fun x3 =>
        NN' l_0 fun a4 =>
        Ld h_0 (a4.add 1) fun v4 => DS v4 fun x4 =>
        ∃ r5, (CallsH Try.prog 20 [.pointer x3, .string x4] h_0 fun r4 h_3 =>
        r4 = r5 ∧ h_3 = h_0) ∧
        DI .i64 r5 fun x5 =>
        Q (.int .i64 x5) h_0))) 0 h
theorem F130_eq : (fun (l_0 : Option Addr) (gone0a : Option Addr) (gone0l : Nat) (gone0c : Nat) (h : Heap) (Q : Value → Heap → Prop) => fnPT Try.prog Try.f130 (fun i => bif Nat.beq i 0 then annOne 10 (codI .i64) else annNil) (fun _ => []) (fun _ => none) [.pointer l_0, .slice gone0a gone0l gone0c] h Q) = F130 := by kernel_rfl
theorem F130_ok {l_0 : Option Addr} {gone0a : Option Addr} {gone0l : Nat} {gone0c : Nat} {h : Heap} {Q : Value → Heap → Prop} (H : F130 l_0 gone0a gone0l gone0c h Q) : CallsH Try.prog 130 [.pointer l_0, .slice gone0a gone0l gone0c] h Q :=
  callsH_of (ann := fun i => bif Nat.beq i 0 then annOne 10 (codI .i64) else annNil) (tys := fun _ => []) (pl := fun _ => none) Try.func130 (by kernel_rfl) (by have e := F130_eq; exact (congrFun (congrFun (congrFun (congrFun (congrFun (congrFun (e) l_0) gone0a) gone0l) gone0c) h) Q).symm ▸ H)

/-- strings.CutPrefix -/
def F131 (s0 : ByteArray) (prefix_0 : ByteArray) (h : Heap) (Q : Value → Heap → Prop) : Prop :=
  CallsH Try.prog 143 [.string s0, .string prefix_0] h fun r0 h_0 =>
  ∃ (x0 : ByteArray), ∃ (x1 : Bool), r0 = .tuple #[.string x0, .bool x1] ∧
  Q (.tuple #[.string x0, .bool x1]) h_0
theorem F131_eq : (fun (s0 : ByteArray) (prefix_0 : ByteArray) (h : Heap) (Q : Value → Heap → Prop) => fnPT Try.prog Try.f131 (fun _ => annNil) (fun _ => []) (fun _ => none) [.string s0, .string prefix_0] h Q) = F131 := by kernel_rfl
theorem F131_ok {s0 : ByteArray} {prefix_0 : ByteArray} {h : Heap} {Q : Value → Heap → Prop} (H : F131 s0 prefix_0 h Q) : CallsH Try.prog 131 [.string s0, .string prefix_0] h Q :=
  callsH_of (ann := fun _ => annNil) (tys := fun _ => []) (pl := fun _ => none) Try.func131 (by kernel_rfl) (by have e := F131_eq; exact (congrFun (congrFun (congrFun (congrFun (e) s0) prefix_0) h) Q).symm ▸ H)

/-- headgate/frame.All -/
def F132 (b0a : Option Addr) (b0l : Nat) (b0c : Nat) (h : Heap) (Q : Value → Heap → Prop) : Prop :=
  RunH Try.prog (Builtin.append_ #[31, 31] 31 #[.slice none 0 0, .slice b0a b0l b0c]) h fun r0 h_0 =>
  DSl r0 fun x0a x0l x0c =>
  Al h_0 (.cells #[.slice none 0 0] 31) fun b1 h_1 =>
  StC h_1 ((Addr.mk b1 0 none).add 0) (.slice x0a x0l x0c) fun h_3 =>
  Q (.func (.func 144) #[] #[.pointer (some (Addr.mk b1 0 none))]) h_3
theorem F132_eq : (fun (b0a : Option Addr) (b0l : Nat) (b0c : Nat) (h : Heap) (Q : Value → Heap → Prop) => fnPT Try.prog Try.f132 (fun _ => annNil) (fun _ => []) (fun _ => none) [.slice b0a b0l b0c] h Q) = F132 := by kernel_rfl
theorem F132_ok {b0a : Option Addr} {b0l : Nat} {b0c : Nat} {h : Heap} {Q : Value → Heap → Prop} (H : F132 b0a b0l b0c h Q) : CallsH Try.prog 132 [.slice b0a b0l b0c] h Q :=
  callsH_of (ann := fun _ => annNil) (tys := fun _ => []) (pl := fun _ => none) Try.func132 (by kernel_rfl) (by have e := F132_eq; exact (congrFun (congrFun (congrFun (congrFun (congrFun (e) b0a) b0l) b0c) h) Q).symm ▸ H)

/-- headgate/simfs.name -/
def F133 (s0 : ByteArray) (h : Heap) (Q : Value → Heap → Prop) : Prop :=
  LoopH (fun again0 (s1 : Int) h_0 =>
    (bif decide ((s1 : Int) < ((s0 : ByteArray).size : Int)) then
      0 ≤ (s1 : Int) ∧ (s1 : Int) < ((s0 : ByteArray).size : Int) ∧
      (bif decide (((bt s0 s1) : Int) < 97) then
        (bif decide (((bt s0 s1) : Int) < 48) then
          (bif ((bt s0 s1) : Int) != 46 then
            Q (.bool false) h_0
          else
            again0 (IntKind.wrap .i64 (s1 + 1)) h_0)
        else
          (bif decide (((bt s0 s1) : Int) > 57) then
            (bif ((bt s0 s1) : Int) != 46 then
              Q (.bool false) h_0
            else
              again0 (IntKind.wrap .i64 (s1 + 1)) h_0)
          else
            again0 (IntKind.wrap .i64 (s1 + 1)) h_0))
      else
        (bif decide (((bt s0 s1) : Int) > 122) then
          (bif decide (((bt s0 s1) : Int) < 48) then
            (bif ((bt s0 s1) : Int) != 46 then
              Q (.bool false) h_0
            else
              again0 (IntKind.wrap .i64 (s1 + 1)) h_0)
          else
            (bif decide (((bt s0 s1) : Int) > 57) then
              (bif ((bt s0 s1) : Int) != 46 then
                Q (.bool false) h_0
              else
                again0 (IntKind.wrap .i64 (s1 + 1)) h_0)
            else
              again0 (IntKind.wrap .i64 (s1 + 1)) h_0))
        else
          again0 (IntKind.wrap .i64 (s1 + 1)) h_0))
    else
      (bif !strEq s0 .empty then
        Q (.bool (decide ((((s0 : ByteArray).size : Int) : Int) ≤ 32))) h_0
      else
        Q (.bool false) h_0))) 0 h
theorem F133_eq : (fun (s0 : ByteArray) (h : Heap) (Q : Value → Heap → Prop) => fnPT Try.prog Try.f133 (fun i => bif Nat.beq i 0 then annOne 7 (codI .i64) else annNil) (fun _ => []) (fun _ => none) [.string s0] h Q) = F133 := by kernel_rfl
theorem F133_ok {s0 : ByteArray} {h : Heap} {Q : Value → Heap → Prop} (H : F133 s0 h Q) : CallsH Try.prog 133 [.string s0] h Q :=
  callsH_of (ann := fun i => bif Nat.beq i 0 then annOne 7 (codI .i64) else annNil) (tys := fun _ => []) (pl := fun _ => none) Try.func133 (by kernel_rfl) (by have e := F133_eq; exact (congrFun (congrFun (congrFun (e) s0) h) Q).symm ▸ H)

/-- slices.AppendSeq[[]string,string] -/
def F134 (s0a : Option Addr) (s0l : Nat) (s0c : Nat) (seq0 : Value) (h : Heap) (Q : Value → Heap → Prop) : Prop :=
  Al h (.cells #[.slice s0a s0l s0c] 41) fun b0 h_0 =>
  RangeFn Try.prog seq0 1 none h_0 (fun l_0 rec_0 args0 h_1 Q_0 =>
    ∃ (y0 : ByteArray), args0 = [.string y0] ∧
    h_1[l_0]? = some (rec_0 .ready none) ∧
    Ld (h_1.setIfInBounds l_0 (rec_0 .busy none)) (Addr.mk b0 0 none) fun v0 => DSl v0 fun x0a x0l x0c =>
    Al (h_1.setIfInBounds l_0 (rec_0 .busy none)) (.cells #[.string y0] 9) fun b1 h_2 =>
    RunH Try.prog (Builtin.append_ #[41, 41] 41 #[.slice x0a x0l x0c, .slice (some (Addr.mk b1 0 none)) 1 1]) h_2 fun r2 h_3 =>
    DSl r2 fun x1a x1l x1c =>
    StC h_3 ((Addr.mk b0 0 none).add 0) (.slice x1a x1l x1c) fun h_5 =>
    h_5[l_0]? = some (rec_0 .busy none) ∧ Q_0 (.bool true) (h_5.setIfInBounds l_0 (rec_0 .ready none))) (fun pend0 h_6 =>
    pend0 = none ∧
    Ld h_6 (Addr.mk b0 0 none) fun v1 => DSl v1 fun x2a x2l x2c =>
    h_6[h_0.size]? = some (.deferred (some [])) ∧
    Q (.slice x2a x2l x2c) (h_6.setIfInBounds h_0.size (.deferred none)))
theorem F134_eq : (fun (s0a : Option Addr) (s0l : Nat) (s0c : Nat) (seq0 : Value) (h : Heap) (Q : Value → Heap → Prop) => fnPT Try.prog Try.f134 (fun _ => annNil) (fun i => bif Nat.beq i 0 then [9] else []) (fun _ => none) [.slice s0a s0l s0c, seq0] h Q) = F134 := by kernel_rfl
theorem F134_ok {s0a : Option Addr} {s0l : Nat} {s0c : Nat} {seq0 : Value} {h : Heap} {Q : Value → Heap → Prop} (H : F134 s0a s0l s0c seq0 h Q) : CallsH Try.prog 134 [.slice s0a s0l s0c, seq0] h Q :=
  callsH_of (ann := fun _ => annNil) (tys := fun i => bif Nat.beq i 0 then [9] else []) (pl := fun _ => none) Try.func134 (by kernel_rfl) (by have e := F134_eq; exact (congrFun (congrFun (congrFun (congrFun (congrFun (congrFun (e) s0a) s0l) s0c) seq0) h) Q).symm ▸ H)

/-- slices.pdqsortOrdered[string] -/
def F135 (data0a : Option Addr) (data0l : Nat) (data0c : Nat) (a0 : Int) (b0 : Int) (limit0 : Int) (h : Heap) (Q : Value → Heap → Prop) : Prop :=
  LoopH (fun again0 (s0 : Int × Int × Int × Bool × Bool) h_0 =>
    (bif decide (((IntKind.wrap .i64 (s0.2.1 - s0.1)) : Int) ≤ 12) then
      CallsH Try.prog 145 [.slice data0a data0l data0c, .int .i64 s0.1, .int .i64 s0.2.1] h_0 fun r0 h_1 =>
      r0 = .tuple #[] ∧
      Q (.tuple #[]) h_1
    else
      (bif (s0.2.2.1 : Int) == 0 then
        CallsH Try.prog 146 [.slice data0a data0l data0c, .int .i64 s0.1, .int .i64 s0.2.1] h_0 fun r1 h_2 =>
        r1 = .tuple #[] ∧
        Q (.tuple #[]) h_2
      else
        (bif !s0.2.2.2.1 then
          CallsH Try.prog 147 [.slice data0a data0l data0c, .int .i64 s0.1, .int .i64 s0.2.1] h_0 fun r2 h_3 =>
          r2 = .tuple #[] ∧
          CallsH Try.prog 148 [.slice data0a data0l data0c, .int .i64 s0.1, .int .i64 s0.2.1] h_3 fun r3 h_4 =>
          ∃ (x0 : Int), ∃ (x1 : Int), r3 = .tuple #[.int .i64 x0, .int .i64 x1] ∧
          (bif (x1 : Int) == 2 then
            CallsH Try.prog 149 [.slice data0a data0l data0c, .int .i64 s0.1, .int .i64 s0.2.1] h_4 fun r4 h_5 =>
            r4 = .tuple #[] ∧
            (bif s0.2.2.2.1 then
              (bif s0.2.2.2.2 then
                (bif (1 : Int) == 1 then
                  CallsH Try.prog 150 [.slice data0a data0l data0c, .int .i64 s0.1, .int .i64 s0.2.1] h_5 fun r5 h_6 =>
                  DB r5 fun x2 =>
                  (bif x2 then
                    Q (.tuple #[]) h_6
                  else
                    (bif decide ((s0.1 : Int) > 0) then
                      IdxA data0a data0l (IntKind.wrap .i64 (s0.1 - 1)) 1 fun a1 =>
                      Ld h_6 a1 fun v0 => DS v0 fun x3 =>
                      IdxA data0a data0l (IntKind.wrap .i64 ((IntKind.wrap .i64 (s0.2.1 - 1)) - (IntKind.wrap .i64 (x0 - s0.1)))) 1 fun a2 =>
                      Ld h_6 a2 fun v1 => DS v1 fun x4 =>
                      ∃ r7, (CallsH Try.prog 151 [.string x3, .string x4] h_6 fun r6 h_7 =>
                      r6 = r7 ∧ h_7 = h_6) ∧
                      DB r7 fun x5 =>
                      (bif !x5 then
                        CallsH Try.prog 152 [.slice data0a data0l data0c, .int .i64 s0.1, .int .i64 s0.2.1, .int .i64 (IntKind.wrap .i64 ((IntKind.wrap .i64 (s0.2.1 - 1)) - (IntKind.wrap .i64 (x0 - s0.1))))] h_6 fun r8 h_8 =>
                        DI .i64 r8 fun mid0 =>
                        again0 (mid0, s0.2.1, IntKind.wrap .i64 (s0.2.2.1 - 1), s0.2.2.2.1, s0.2.2.2.2) h_8
                      else
                        CallsH Try.prog 153 [.slice data0a data0l data0c, .int .i64 s0.1, .int .i64 s0.2.1, .int .i64 (IntKind.wrap .i64 ((IntKind.wrap .i64 (s0.2.1 - 1)) - (IntKind.wrap .i64 (x0 - s0.1))))] h_6 fun r9 h_9 =>
                        ∃ (x6 : Int), ∃ (x7 : Bool), r9 = .tuple #[.int .i64 x6, .bool x7] ∧
                        (8 : Int) ≠ 0 ∧
                        (bif decide (((IntKind.wrap .i64 (x6 - s0.1)) : Int) < (IntKind.wrap .i64 (s0.2.1 - x6))) then
                          CallsH Try.prog 135 [.slice data0a data0l data0c, .int .i64 s0.1, .int .i64 x6, .int .i64 (IntKind.wrap .i64 (s0.2.2.1 - 1))] h_9 fun r10 h_10 =>
                          r10 = .tuple #[] ∧
                          again0 (IntKind.wrap .i64 (x6 + 1), s0.2.1, IntKind.wrap .i64 (s0.2.2.1 - 1), decide (((IntKind.wrap .i64 (x6 - s0.1)) : Int) ≥ (IntKind.wrap .i64 (Int.tdiv (IntKind.wrap .i64 (s0.2.1 - s0.1)) 8))), x7) h_10
                        else
                          CallsH Try.prog 135 [.slice data0a data0l data0c, .int .i64 (IntKind.wrap .i64 (x6 + 1)), .int .i64 s0.2.1, .int .i64 (IntKind.wrap .i64 (s0.2.2.1 - 1))] h_9 fun r11 h_11 =>
                          r11 = .tuple #[] ∧
                          again0 (s0.1, x6, IntKind.wrap .i64 (s0.2.2.1 - 1), decide (((IntKind.wrap .i64 (s0.2.1 - x6)) : Int) ≥ (IntKind.wrap .i64 (Int.tdiv (IntKind.wrap .i64 (s0.2.1 - s0.1)) 8))), x7) h_11))
                    else
                      CallsH Try.prog 153 [.slice data0a data0l data0c, .int .i64 s0.1, .int .i64 s0.2.1, .int .i64 (IntKind.wrap .i64 ((IntKind.wrap .i64 (s0.2.1 - 1)) - (IntKind.wrap .i64 (x0 - s0.1))))] h_6 fun r12 h_12 =>
                      ∃ (x8 : Int), ∃ (x9 : Bool), r12 = .tuple #[.int .i64 x8, .bool x9] ∧
                      (8 : Int) ≠ 0 ∧
                      (bif decide (((IntKind.wrap .i64 (x8 - s0.1)) : Int) < (IntKind.wrap .i64 (s0.2.1 - x8))) then
                        CallsH Try.prog 135 [.slice data0a data0l data0c, .int .i64 s0.1, .int .i64 x8, .int .i64 (IntKind.wrap .i64 (s0.2.2.1 - 1))] h_12 fun r13 h_13 =>
                        r13 = .tuple #[] ∧
                        again0 (IntKind.wrap .i64 (x8 + 1), s0.2.1, IntKind.wrap .i64 (s0.2.2.1 - 1), decide (((IntKind.wrap .i64 (x8 - s0.1)) : Int) ≥ (IntKind.wrap .i64 (Int.tdiv (IntKind.wrap .i64 (s0.2.1 - s0.1)) 8))), x9) h_13
                      else
                        CallsH Try.prog 135 [.slice data0a data0l data0c, .int .i64 (IntKind.wrap .i64 (x8 + 1)), .int .i64 s0.2.1, .int .i64 (IntKind.wrap .i64 (s0.2.2.1 - 1))] h_12 fun r14 h_14 =>
                        r14 = .tuple #[] ∧
                        again0 (s0.1, x8, IntKind.wrap .i64 (s0.2.2.1 - 1), decide (((IntKind.wrap .i64 (s0.2.1 - x8)) : Int) ≥ (IntKind.wrap .i64 (Int.tdiv (IntKind.wrap .i64 (s0.2.1 - s0.1)) 8))), x9) h_14)))
                else
                  (bif decide ((s0.1 : Int) > 0) then
                    IdxA data0a data0l (IntKind.wrap .i64 (s0.1 - 1)) 1 fun a3 =>
                    Ld h_5 a3 fun v2 => DS v2 fun x10 =>
                    IdxA data0a data0l (IntKind.wrap .i64 ((IntKind.wrap .i64 (s0.2.1 - 1)) - (IntKind.wrap .i64 (x0 - s0.1)))) 1 fun a4 =>
                    Ld h_5 a4 fun v3 => DS v3 fun x11 =>
                    ∃ r16, (CallsH Try.prog 151 [.string x10, .string x11] h_5 fun r15 h_15 =>
                    r15 = r16 ∧ h_15 = h_5) ∧
                    DB r16 fun x12 =>
                    (bif !x12 then
                      CallsH Try.prog 152 [.slice data0a data0l data0c, .int .i64 s0.1, .int .i64 s0.2.1, .int .i64 (IntKind.wrap .i64 ((IntKind.wrap .i64 (s0.2.1 - 1)) - (IntKind.wrap .i64 (x0 - s0.1))))] h_5 fun r17 h_16 =>
                      DI .i64 r17 fun mid1 =>
                      again0 (mid1, s0.2.1, IntKind.wrap .i64 (s0.2.2.1 - 1), s0.2.2.2.1, s0.2.2.2.2) h_16
                    else
                      CallsH Try.prog 153 [.slice data0a data0l data0c, .int .i64 s0.1, .int .i64 s0.2.1, .int .i64 (IntKind.wrap .i64 ((IntKind.wrap .i64 (s0.2.1 - 1)) - (IntKind.wrap .i64 (x0 - s0.1))))] h_5 fun r18 h_17 =>
                      ∃ (x13 : Int), ∃ (x14 : Bool), r18 = .tuple #[.int .i64 x13, .bool x14] ∧
                      (8 : Int) ≠ 0 ∧
                      (bif decide (((IntKind.wrap .i64 (x13 - s0.1)) : Int) < (IntKind.wrap .i64 (s0.2.1 - x13))) then
                        CallsH Try.prog 135 [.slice data0a data0l data0c, .int .i64 s0.1, .int .i64 x13, .int .i64 (IntKind.wrap .i64 (s0.2.2.1 - 1))] h_17 fun r19 h_18 =>
                        r19 = .tuple #[] ∧
                        again0 (IntKind.wrap .i64 (x13 + 1), s0.2.1, IntKind.wrap .i64 (s0.2.2.1 - 1), decide (((IntKind.wrap .i64 (x13 - s0.1)) : Int) ≥ (IntKind.wrap .i64 (Int.tdiv (IntKind.wrap .i64 (s0.2.1 - s0.1)) 8))), x14) h_18
                      else
                        CallsH Try.prog 135 [.slice data0a data0l data0c, .int .i64 (IntKind.wrap .i64 (x13 + 1)), .int .i64 s0.2.1, .int .i64 (IntKind.wrap .i64 (s0.2.2.1 - 1))] h_17 fun r20 h_19 =>
                        r20 = .tuple #[] ∧
                        again0 (s0.1, x13, IntKind.wrap .i64 (s0.2.2.1 - 1), decide (((IntKind.wrap .i64 (s0.2.1 - x13)) : Int) ≥ (IntKind.wrap .i64 (Int.tdiv (IntKind.wrap .i64 (s0.2.1 - s0.1)) 8))), x14) h_19))
                  else
                    CallsH Try.prog 153 [.slice data0a data0l data0c, .int .i64 s0.1, .int .i64 s0.2.1, .int .i64 (IntKind.wrap .i64 ((IntKind.wrap .i64 (s0.2.1 - 1)) - (IntKind.wrap .i64 (x0 - s0.1))))] h_5 fun r21 h_20 =>
                    ∃ (x15 : Int), ∃ (x16 : Bool), r21 = .tuple #[.int .i64 x15, .bool x16] ∧
                    (8 : Int) ≠ 0 ∧
                    (bif decide (((IntKind.wrap .i64 (x15 - s0.1)) : Int) < (IntKind.wrap .i64 (s0.2.1 - x15))) then
                      CallsH Try.prog 135 [.slice data0a data0l data0c, .int .i64 s0.1, .int .i64 x15, .int .i64 (IntKind.wrap .i64 (s0.2.2.1 - 1))] h_20 fun r22 h_21 =>
                      r22 = .tuple #[] ∧
                      again0 (IntKind.wrap .i64 (x15 + 1), s0.2.1, IntKind.wrap .i64 (s0.2.2.1 - 1), decide (((IntKind.wrap .i64 (x15 - s0.1)) : Int) ≥ (IntKind.wrap .i64 (Int.tdiv (IntKind.wrap .i64 (s0.2.1 - s0.1)) 8))), x16) h_21
                    else
                      CallsH Try.prog 135 [.slice data0a data0l data0c, .int .i64 (IntKind.wrap .i64 (x15 + 1)), .int .i64 s0.2.1, .int .i64 (IntKind.wrap .i64 (s0.2.2.1 - 1))] h_20 fun r23 h_22 =>
                      r23 = .tuple #[] ∧
                      again0 (s0.1, x15, IntKind.wrap .i64 (s0.2.2.1 - 1), decide (((IntKind.wrap .i64 (s0.2.1 - x15)) : Int) ≥ (IntKind.wrap .i64 (Int.tdiv (IntKind.wrap .i64 (s0.2.1 - s0.1)) 8))), x16) h_22)))
              else
                (bif decide ((s0.1 : Int) > 0) then
                  IdxA data0a data0l (IntKind.wrap .i64 (s0.1 - 1)) 1 fun a5 =>
                  Ld h_5 a5 fun v4 => DS v4 fun x17 =>
                  IdxA data0a data0l (IntKind.wrap .i64 ((IntKind.wrap .i64 (s0.2.1 - 1)) - (IntKind.wrap .i64 (x0 - s0.1)))) 1 fun a6 =>
                  Ld h_5 a6 fun v5 => DS v5 fun x18 =>
                  ∃ r25, (CallsH Try.prog 151 [.string x17, .string x18] h_5 fun r24 h_23 =>
                  r24 = r25 ∧ h_23 = h_5) ∧
                  DB r25 fun x19 =>
                  (bif !x19 then
                    CallsH Try.prog 152 [.slice data0a data0l data0c, .int .i64 s0.1, .int .i64 s0.2.1, .int .i64 (IntKind.wrap .i64 ((IntKind.wrap .i64 (s0.2.1 - 1)) - (IntKind.wrap .i64 (x0 - s0.1))))] h_5 fun r26 h_24 =>
                    DI .i64 r26 fun mid2 =>
                    again0 (mid2, s0.2.1, IntKind.wrap .i64 (s0.2.2.1 - 1), s0.2.2.2.1, s0.2.2.2.2) h_24
                  else
                    CallsH Try.prog 153 [.slice data0a data0l data0c, .int .i64 s0.1, .int .i64 s0.2.1, .int .i64 (IntKind.wrap .i64 ((IntKind.wrap .i64 (s0.2.1 - 1)) - (IntKind.wrap .i64 (x0 - s0.1))))] h_5 fun r27 h_25 =>
                    ∃ (x20 : Int), ∃ (x21 : Bool), r27 = .tuple #[.int .i64 x20, .bool x21] ∧
                    (8 : Int) ≠ 0 ∧
                    (bif decide (((IntKind.wrap .i64 (x20 - s0.1)) : Int) < (IntKind.wrap .i64 (s0.2.1 - x20))) then
                      CallsH Try.prog 135 [.slice data0a data0l data0c, .int .i64 s0.1, .int .i64 x20, .int .i64 (IntKind.wrap .i64 (s0.2.2.1 - 1))] h_25 fun r28 h_26 =>
                      r28 = .tuple #[] ∧
                      again0 (IntKind.wrap .i64 (x20 + 1), s0.2.1, IntKind.wrap .i64 (s0.2.2.1 - 1), decide (((IntKind.wrap .i64 (x20 - s0.1)) : Int) ≥ (IntKind.wrap .i64 (Int.tdiv (IntKind.wrap .i64 (s0.2.1 - s0.1)) 8))), x21) h_26
                    else
                      CallsH Try.prog 135 [.slice data0a data0l data0c, .int .i64 (IntKind.wrap .i64 (x20 + 1)), .int .i64 s0.2.1, .int .i64 (IntKind.wrap .i64 (s0.2.2.1 - 1))] h_25 fun r29 h_27 =>
                      r29 = .tuple #[] ∧
                      again0 (s0.1, x20, IntKind.wrap .i64 (s0.2.2.1 - 1), decide (((IntKind.wrap .i64 (s0.2.1 - x20)) : Int) ≥ (IntKind.wrap .i64 (Int.tdiv (IntKind.wrap .i64 (s0.2.1 - s0.1)) 8))), x21) h_27))
                else
                  CallsH Try.prog 153 [.slice data0a data0l data0c, .int .i64 s0.1, .int .i64 s0.2.1, .int .i64 (IntKind.wrap .i64 ((IntKind.wrap .i64 (s0.2.1 - 1)) - (IntKind.wrap .i64 (x0 - s0.1))))] h_5 fun r30 h_28 =>
                  ∃ (x22 : Int), ∃ (x23 : Bool), r30 = .tuple #[.int .i64 x22, .bool x23] ∧
                  (8 : Int) ≠ 0 ∧
                  (bif decide (((IntKind.wrap .i64 (x22 - s0.1)) : Int) < (IntKind.wrap .i64 (s0.2.1 - x22))) then
                    CallsH Try.prog 135 [.slice data0a data0l data0c, .int .i64 s0.1, .int .i64 x22, .int .i64 (IntKind.wrap .i64 (s0.2.2.1 - 1))] h_28 fun r31 h_29 =>
                    r31 = .tuple #[] ∧
                    again0 (IntKind.wrap .i64 (x22 + 1), s0.2.1, IntKind.wrap .i64 (s0.2.2.1 - 1), decide (((IntKind.wrap .i64 (x22 - s0.1)) : Int) ≥ (IntKind.wrap .i64 (Int.tdiv (IntKind.wrap .i64 (s0.2.1 - s0.1)) 8))), x23) h_29
                  else
                    CallsH Try.prog 135 [.slice data0a data0l data0c, .int .i64 (IntKind.wrap .i64 (x22 + 1)), .int .i64 s0.2.1, .int .i64 (IntKind.wrap .i64 (s0.2.2.1 - 1))] h_28 fun r32 h_30 =>
                    r32 = .tuple #[] ∧
                    again0 (s0.1, x22, IntKind.wrap .i64 (s0.2.2.1 - 1), decide (((IntKind.wrap .i64 (s0.2.1 - x22)) : Int) ≥ (IntKind.wrap .i64 (Int.tdiv (IntKind.wrap .i64 (s0.2.1 - s0.1)) 8))), x23) h_30)))
            else
              (bif decide ((s0.1 : Int) > 0) then
                IdxA data0a data0l (IntKind.wrap .i64 (s0.1 - 1)) 1 fun a7 =>
                Ld h_5 a7 fun v6 => DS v6 fun x24 =>
                IdxA data0a data0l (IntKind.wrap .i64 ((IntKind.wrap .i64 (s0.2.1 - 1)) - (IntKind.wrap .i64 (x0 - s0.1)))) 1 fun a8 =>
                Ld h_5 a8 fun v7 => DS v7 fun x25 =>
                ∃ r34, (CallsH Try.prog 151 [.string x24, .string x25] h_5 fun r33 h_31 =>
                r33 = r34 ∧ h_31 = h_5) ∧
                DB r34 fun x26 =>
                (bif !x26 then
                  CallsH Try.prog 152 [.slice data0a data0l data0c, .int .i64 s0.1, .int .i64 s0.2.1, .int .i64 (IntKind.wrap .i64 ((IntKind.wrap .i64 (s0.2.1 - 1)) - (IntKind.wrap .i64 (x0 - s0.1))))] h_5 fun r35 h_32 =>
                  DI .i64 r35 fun mid3 =>
                  again0 (mid3, s0.2.1, IntKind.wrap .i64 (s0.2.2.1 - 1), s0.2.2.2.1, s0.2.2.2.2) h_32
                else
                  CallsH Try.prog 153 [.slice data0a data0l data0c, .int .i64 s0.1, .int .i64 s0.2.1, .int .i64 (IntKind.wrap .i64 ((IntKind.wrap .i64 (s0.2.1 - 1)) - (IntKind.wrap .i64 (x0 - s0.1))))] h_5 fun r36 h_33 =>
                  ∃ (x27 : Int), ∃ (x28 : Bool), r36 = .tuple #[.int .i64 x27, .bool x28] ∧
                  (8 : Int) ≠ 0 ∧
                  (bif decide (((IntKind.wrap .i64 (x27 - s0.1)) : Int) < (IntKind.wrap .i64 (s0.2.1 - x27))) then
                    CallsH Try.prog 135 [.slice data0a data0l data0c, .int .i64 s0.1, .int .i64 x27, .int .i64 (IntKind.wrap .i64 (s0.2.2.1 - 1))] h_33 fun r37 h_34 =>
                    r37 = .tuple #[] ∧
                    again0 (IntKind.wrap .i64 (x27 + 1), s0.2.1, IntKind.wrap .i64 (s0.2.2.1 - 1), decide (((IntKind.wrap .i64 (x27 - s0.1)) : Int) ≥ (IntKind.wrap .i64 (Int.tdiv (IntKind.wrap .i64 (s0.2.1 - s0.1)) 8))), x28) h_34
                  else
                    CallsH Try.prog 135 [.slice data0a data0l data0c, .int .i64 (IntKind.wrap .i64 (x27 + 1)), .int .i64 s0.2.1, .int .i64 (IntKind.wrap .i64 (s0.2.2.1 - 1))] h_33 fun r38 h_35 =>
                    r38 = .tuple #[] ∧
                    again0 (s0.1, x27, IntKind.wrap .i64 (s0.2.2.1 - 1), decide (((IntKind.wrap .i64 (s0.2.1 - x27)) : Int) ≥ (IntKind.wrap .i64 (Int.tdiv (IntKind.wrap .i64 (s0.2.1 - s0.1)) 8))), x28) h_35))
              else
                CallsH Try.prog 153 [.slice data0a data0l data0c, .int .i64 s0.1, .int .i64 s0.2.1, .int .i64 (IntKind.wrap .i64 ((IntKind.wrap .i64 (s0.2.1 - 1)) - (IntKind.wrap .i64 (x0 - s0.1))))] h_5 fun r39 h_36 =>
                ∃ (x29 : Int), ∃ (x30 : Bool), r39 = .tuple #[.int .i64 x29, .bool x30] ∧
                (8 : Int) ≠ 0 ∧
                (bif decide (((IntKind.wrap .i64 (x29 - s0.1)) : Int) < (IntKind.wrap .i64 (s0.2.1 - x29))) then
                  CallsH Try.prog 135 [.slice data0a data0l data0c, .int .i64 s0.1, .int .i64 x29, .int .i64 (IntKind.wrap .i64 (s0.2.2.1 - 1))] h_36 fun r40 h_37 =>
                  r40 = .tuple #[] ∧
                  again0 (IntKind.wrap .i64 (x29 + 1), s0.2.1, IntKind.wrap .i64 (s0.2.2.1 - 1), decide (((IntKind.wrap .i64 (x29 - s0.1)) : Int) ≥ (IntKind.wrap .i64 (Int.tdiv (IntKind.wrap .i64 (s0.2.1 - s0.1)) 8))), x30) h_37
                else
                  CallsH Try.prog 135 [.slice data0a data0l data0c, .int .i64 (IntKind.wrap .i64 (x29 + 1)), .int .i64 s0.2.1, .int .i64 (IntKind.wrap .i64 (s0.2.2.1 - 1))] h_36 fun r41 h_38 =>
                  r41 = .tuple #[] ∧
                  again0 (s0.1, x29, IntKind.wrap .i64 (s0.2.2.1 - 1), decide (((IntKind.wrap .i64 (s0.2.1 - x29)) : Int) ≥ (IntKind.wrap .i64 (Int.tdiv (IntKind.wrap .i64 (s0.2.1 - s0.1)) 8))), x30) h_38)))
          else
            (bif s0.2.2.2.1 then
              (bif s0.2.2.2.2 then
                (bif (x1 : Int) == 1 then
                  CallsH Try.prog 150 [.slice data0a data0l data0c, .int .i64 s0.1, .int .i64 s0.2.1] h_4 fun r42 h_39 =>
                  DB r42 fun x31 =>
                  (bif x31 then
                    Q (.tuple #[]) h_39
                  else
                    (bif decide ((s0.1 : Int) > 0) then
                      IdxA data0a data0l (IntKind.wrap .i64 (s0.1 - 1)) 1 fun a9 =>
                      Ld h_39 a9 fun v8 => DS v8 fun x32 =>
                      IdxA data0a data0l x0 1 fun a10 =>
                      Ld h_39 a10 fun v9 => DS v9 fun x33 =>
                      ∃ r44, (CallsH Try.prog 151 [.string x32, .string x33] h_39 fun r43 h_40 =>
                      r43 = r44 ∧ h_40 = h_39) ∧
                      DB r44 fun x34 =>
                      (bif !x34 then
                        CallsH Try.prog 152 [.slice data0a data0l data0c, .int .i64 s0.1, .int .i64 s0.2.1, .int .i64 x0] h_39 fun r45 h_41 =>
                        DI .i64 r45 fun mid4 =>
                        again0 (mid4, s0.2.1, IntKind.wrap .i64 (s0.2.2.1 - 1), s0.2.2.2.1, s0.2.2.2.2) h_41
                      else
                        CallsH Try.prog 153 [.slice data0a data0l data0c, .int .i64 s0.1, .int .i64 s0.2.1, .int .i64 x0] h_39 fun r46 h_42 =>
                        ∃ (x35 : Int), ∃ (x36 : Bool), r46 = .tuple #[.int .i64 x35, .bool x36] ∧
                        (8 : Int) ≠ 0 ∧
                        (bif decide (((IntKind.wrap .i64 (x35 - s0.1)) : Int) < (IntKind.wrap .i64 (s0.2.1 - x35))) then
                          CallsH Try.prog 135 [.slice data0a data0l data0c, .int .i64 s0.1, .int .i64 x35, .int .i64 (IntKind.wrap .i64 (s0.2.2.1 - 1))] h_42 fun r47 h_43 =>
                          r47 = .tuple #[] ∧
                          again0 (IntKind.wrap .i64 (x35 + 1), s0.2.1, IntKind.wrap .i64 (s0.2.2.1 - 1), decide (((IntKind.wrap .i64 (x35 - s0.1)) : Int) ≥ (IntKind.wrap .i64 (Int.tdiv (IntKind.wrap .i64 (s0.2.1 - s0.1)) 8))), x36) h_43
                        else
                          CallsH Try.prog 135 [.slice data0a data0l data0c, .int .i64 (IntKind.wrap .i64 (x35 + 1)), .int .i64 s0.2.1, .int .i64 (IntKind.wrap .i64 (s0.2.2.1 - 1))] h_42 fun r48 h_44 =>
                          r48 = .tuple #[] ∧
                          again0 (s0.1, x35, IntKind.wrap .i64 (s0.2.2.1 - 1), decide (((IntKind.wrap .i64 (s0.2.1 - x35)) : Int) ≥ (IntKind.wrap .i64 (Int.tdiv (IntKind.wrap .i64 (s0.2.1 - s0.1)) 8))), x36) h_44))
                    else
                      CallsH Try.prog 153 [.slice data0a data0l data0c, .int .i64 s0.1, .int .i64 s0.2.1, .int .i64 x0] h_39 fun r49 h_45 =>
                      ∃ (x37 : Int), ∃ (x38 : Bool), r49 = .tuple #[.int .i64 x37, .bool x38] ∧
                      (8 : Int) ≠ 0 ∧
                      (bif decide (((IntKind.wrap .i64 (x37 - s0.1)) : Int) < (IntKind.wrap .i64 (s0.2.1 - x37))) then
                        CallsH Try.prog 135 [.slice data0a data0l data0c, .int .i64 s0.1, .int .i64 x37, .int .i64 (IntKind.wrap .i64 (s0.2.2.1 - 1))] h_45 fun r50 h_46 =>
                        r50 = .tuple #[] ∧
                        again0 (IntKind.wrap .i64 (x37 + 1), s0.2.1, IntKind.wrap .i64 (s0.2.2.1 - 1), decide (((IntKind.wrap .i64 (x37 - s0.1)) : Int) ≥ (IntKind.wrap .i64 (Int.tdiv (IntKind.wrap .i64 (s0.2.1 - s0.1)) 8))), x38) h_46
                      else
                        CallsH Try.prog 135 [.slice data0a data0l data0c, .int .i64 (IntKind.wrap .i64 (x37 + 1)), .int .i64 s0.2.1, .int .i64 (IntKind.wrap .i64 (s0.2.2.1 - 1))] h_45 fun r51 h_47 =>
                        r51 = .tuple #[] ∧
                        again0 (s0.1, x37, IntKind.wrap .i64 (s0.2.2.1 - 1), decide (((IntKind.wrap .i64 (s0.2.1 - x37)) : Int) ≥ (IntKind.wrap .i64 (Int.tdiv (IntKind.wrap .i64 (s0.2.1 - s0.1)) 8))), x38) h_47)))
                else
                  (bif decide ((s0.1 : Int) > 0) then
                    IdxA data0a data0l (IntKind.wrap .i64 (s0.1 - 1)) 1 fun a11 =>
                    Ld h_4 a11 fun v10 => DS v10 fun x39 =>
                    IdxA data0a data0l x0 1 fun a12 =>
                    Ld h_4 a12 fun v11 => DS v11 fun x40 =>
                    ∃ r53, (CallsH Try.prog 151 [.string x39, .string x40] h_4 fun r52 h_48 =>
                    r52 = r53 ∧ h_48 = h_4) ∧
                    DB r53 fun x41 =>
                    (bif !x41 then
                      CallsH Try.prog 152 [.slice data0a data0l data0c, .int .i64 s0.1, .int .i64 s0.2.1, .int .i64 x0] h_4 fun r54 h_49 =>
                      DI .i64 r54 fun mid5 =>
                      again0 (mid5, s0.2.1, IntKind.wrap .i64 (s0.2.2.1 - 1), s0.2.2.2.1, s0.2.2.2.2) h_49
                    else
                      CallsH Try.prog 153 [.slice data0a data0l data0c, .int .i64 s0.1, .int .i64 s0.2.1, .int .i64 x0] h_4 fun r55 h_50 =>
                      ∃ (x42 : Int), ∃ (x43 : Bool), r55 = .tuple #[.int .i64 x42, .bool x43] ∧
                      (8 : Int) ≠ 0 ∧
                      (bif decide (((IntKind.wrap .i64 (x42 - s0.1)) : Int) < (IntKind.wrap .i64 (s0.2.1 - x42))) then
                        CallsH Try.prog 135 [.slice data0a data0l data0c, .int .i64 s0.1, .int .i64 x42, .int .i64 (IntKind.wrap .i64 (s0.2.2.1 - 1))] h_50 fun r56 h_51 =>
                        r56 = .tuple #[] ∧
                        again0 (IntKind.wrap .i64 (x42 + 1), s0.2.1, IntKind.wrap .i64 (s0.2.2.1 - 1), decide (((IntKind.wrap .i64 (x42 - s0.1)) : Int) ≥ (IntKind.wrap .i64 (Int.tdiv (IntKind.wrap .i64 (s0.2.1 - s0.1)) 8))), x43) h_51
                      else
                        CallsH Try.prog 135 [.slice data0a data0l data0c, .int .i64 (IntKind.wrap .i64 (x42 + 1)), .int .i64 s0.2.1, .int .i64 (IntKind.wrap .i64 (s0.2.2.1 - 1))] h_50 fun r57 h_52 =>
                        r57 = .tuple #[] ∧
                        again0 (s0.1, x42, IntKind.wrap .i64 (s0.2.2.1 - 1), decide (((IntKind.wrap .i64 (s0.2.1 - x42)) : Int) ≥ (IntKind.wrap .i64 (Int.tdiv (IntKind.wrap .i64 (s0.2.1 - s0.1)) 8))), x43) h_52))
                  else
                    CallsH Try.prog 153 [.slice data0a data0l data0c, .int .i64 s0.1, .int .i64 s0.2.1, .int .i64 x0] h_4 fun r58 h_53 =>
                    ∃ (x44 : Int), ∃ (x45 : Bool), r58 = .tuple #[.int .i64 x44, .bool x45] ∧
                    (8 : Int) ≠ 0 ∧
                    (bif decide (((IntKind.wrap .i64 (x44 - s0.1)) : Int) < (IntKind.wrap .i64 (s0.2.1 - x44))) then
                      CallsH Try.prog 135 [.slice data0a data0l data0c, .int .i64 s0.1, .int .i64 x44, .int .i64 (IntKind.wrap .i64 (s0.2.2.1 - 1))] h_53 fun r59 h_54 =>
                      r59 = .tuple #[] ∧
                      again0 (IntKind.wrap .i64 (x44 + 1), s0.2.1, IntKind.wrap .i64 (s0.2.2.1 - 1), decide (((IntKind.wrap .i64 (x44 - s0.1)) : Int) ≥ (IntKind.wrap .i64 (Int.tdiv (IntKind.wrap .i64 (s0.2.1 - s0.1)) 8))), x45) h_54
                    else
                      CallsH Try.prog 135 [.slice data0a data0l data0c, .int .i64 (IntKind.wrap .i64 (x44 + 1)), .int .i64 s0.2.1, .int .i64 (IntKind.wrap .i64 (s0.2.2.1 - 1))] h_53 fun r60 h_55 =>
                      r60 = .tuple #[] ∧
                      again0 (s0.1, x44, IntKind.wrap .i64 (s0.2.2.1 - 1), decide (((IntKind.wrap .i64 (s0.2.1 - x44)) : Int) ≥ (IntKind.wrap .i64 (Int.tdiv (IntKind.wrap .i64 (s0.2.1 - s0.1)) 8))), x45) h_55)))
              else
                (bif decide ((s0.1 : Int) > 0) then
                  IdxA data0a data0l (IntKind.wrap .i64 (s0.1 - 1)) 1 fun a13 =>
                  Ld h_4 a13 fun v12 => DS v12 fun x46 =>
                  IdxA data0a data0l x0 1 fun a14 =>
                  Ld h_4 a14 fun v13 => DS v13 fun x47 =>
                  ∃ r62, (CallsH Try.prog 151 [.string x46, .string x47] h_4 fun r61 h_56 =>
                  r61 = r62 ∧ h_56 = h_4) ∧
                  DB r62 fun x48 =>
                  (bif !x48 then
                    CallsH Try.prog 152 [.slice data0a data0l data0c, .int .i64 s0.1, .int .i64 s0.2.1, .int .i64 x0] h_4 fun r63 h_57 =>
                    DI .i64 r63 fun mid6 =>
                    again0 (mid6, s0.2.1, IntKind.wrap .i64 (s0.2.2.1 - 1), s0.2.2.2.1, s0.2.2.2.2) h_57
                  else
                    CallsH Try.prog 153 [.slice data0a data0l data0c, .int .i64 s0.1, .int .i64 s0.2.1, .int .i64 x0] h_4 fun r64 h_58 =>
                    ∃ (x49 : Int), ∃ (x50 : Bool), r64 = .tuple #[.int .i64 x49, .bool x50] ∧
                    (8 : Int) ≠ 0 ∧
                    (bif decide (((IntKind.wrap .i64 (x49 - s0.1)) : Int) < (IntKind.wrap .i64 (s0.2.1 - x49))) then
                      CallsH Try.prog 135 [.slice data0a data0l data0c, .int .i64 s0.1, .int .i64 x49, .int .i64 (IntKind.wrap .i64 (s0.2.2.1 - 1))] h_58 fun r65 h_59 =>
                      r65 = .tuple #[] ∧
                      again0 (IntKind.wrap .i64 (x49 + 1), s0.2.1, IntKind.wrap .i64 (s0.2.2.1 - 1), decide (((IntKind.wrap .i64 (x49 - s0.1)) : Int) ≥ (IntKind.wrap .i64 (Int.tdiv (IntKind.wrap .i64 (s0.2.1 - s0.1)) 8))), x50) h_59
                    else
                      CallsH Try.prog 135 [.slice data0a data0l data0c, .int .i64 (IntKind.wrap .i64 (x49 + 1)), .int .i64 s0.2.1, .int .i64 (IntKind.wrap .i64 (s0.2.2.1 - 1))] h_58 fun r66 h_60 =>
                      r66 = .tuple #[] ∧
                      again0 (s0.1, x49, IntKind.wrap .i64 (s0.2.2.1 - 1), decide (((IntKind.wrap .i64 (s0.2.1 - x49)) : Int) ≥ (IntKind.wrap .i64 (Int.tdiv (IntKind.wrap .i64 (s0.2.1 - s0.1)) 8))), x50) h_60))
                else
                  CallsH Try.prog 153 [.slice data0a data0l data0c, .int .i64 s0.1, .int .i64 s0.2.1, .int .i64 x0] h_4 fun r67 h_61 =>
                  ∃ (x51 : Int), ∃ (x52 : Bool), r67 = .tuple #[.int .i64 x51, .bool x52] ∧
                  (8 : Int) ≠ 0 ∧
                  (bif decide (((IntKind.wrap .i64 (x51 - s0.1)) : Int) < (IntKind.wrap .i64 (s0.2.1 - x51))) then
                    CallsH Try.prog 135 [.slice data0a data0l data0c, .int .i64 s0.1, .int .i64 x51, .int .i64 (IntKind.wrap .i64 (s0.2.2.1 - 1))] h_61 fun r68 h_62 =>
                    r68 = .tuple #[] ∧
                    again0 (IntKind.wrap .i64 (x51 + 1), s0.2.1, IntKind.wrap .i64 (s0.2.2.1 - 1), decide (((IntKind.wrap .i64 (x51 - s0.1)) : Int) ≥ (IntKind.wrap .i64 (Int.tdiv (IntKind.wrap .i64 (s0.2.1 - s0.1)) 8))), x52) h_62
                  else
                    CallsH Try.prog 135 [.slice data0a data0l data0c, .int .i64 (IntKind.wrap .i64 (x51 + 1)), .int .i64 s0.2.1, .int .i64 (IntKind.wrap .i64 (s0.2.2.1 - 1))] h_61 fun r69 h_63 =>
                    r69 = .tuple #[] ∧
                    again0 (s0.1, x51, IntKind.wrap .i64 (s0.2.2.1 - 1), decide (((IntKind.wrap .i64 (s0.2.1 - x51)) : Int) ≥ (IntKind.wrap .i64 (Int.tdiv (IntKind.wrap .i64 (s0.2.1 - s0.1)) 8))), x52) h_63)))
            else
              (bif decide ((s0.1 : Int) > 0) then
                IdxA data0a data0l (IntKind.wrap .i64 (s0.1 - 1)) 1 fun a15 =>
                Ld h_4 a15 fun v14 => DS v14 fun x53 =>
                IdxA data0a data0l x0 1 fun a16 =>
                Ld h_4 a16 fun v15 => DS v15 fun x54 =>
                ∃ r71, (CallsH Try.prog 151 [.string x53, .string x54] h_4 fun r70 h_64 =>
                r70 = r71 ∧ h_64 = h_4) ∧
                DB r71 fun x55 =>
                (bif !x55 then
                  CallsH Try.prog 152 [.slice data0a data0l data0c, .int .i64 s0.1, .int .i64 s0.2.1, .int .i64 x0] h_4 fun r72 h_65 =>
                  DI .i64 r72 fun mid7 =>
                  again0 (mid7, s0.2.1, IntKind.wrap .i64 (s0.2.2.1 - 1), s0.2.2.2.1, s0.2.2.2.2) h_65
                else
                  CallsH Try.prog 153 [.slice data0a data0l data0c, .int .i64 s0.1, .int .i64 s0.2.1, .int .i64 x0] h_4 fun r73 h_66 =>
                  ∃ (x56 : Int), ∃ (x57 : Bool), r73 = .tuple #[.int .i64 x56, .bool x57] ∧
                  (8 : Int) ≠ 0 ∧
                  (bif decide (((IntKind.wrap .i64 (x56 - s0.1)) : Int) < (IntKind.wrap .i64 (s0.2.1 - x56))) then
                    CallsH Try.prog 135 [.slice data0a data0l data0c, .int .i64 s0.1, .int .i64 x56, .int .i64 (IntKind.wrap .i64 (s0.2.2.1 - 1))] h_66 fun r74 h_67 =>
                    r74 = .tuple #[] ∧
                    again0 (IntKind.wrap .i64 (x56 + 1), s0.2.1, IntKind.wrap .i64 (s0.2.2.1 - 1), decide (((IntKind.wrap .i64 (x56 - s0.1)) : Int) ≥ (IntKind.wrap .i64 (Int.tdiv (IntKind.wrap .i64 (s0.2.1 - s0.1)) 8))), x57) h_67
                  else
                    CallsH Try.prog 135 [.slice data0a data0l data0c, .int .i64 (IntKind.wrap .i64 (x56 + 1)), .int .i64 s0.2.1, .int .i64 (IntKind.wrap .i64 (s0.2.2.1 - 1))] h_66 fun r75 h_68 =>
                    r75 = .tuple #[] ∧
                    again0 (s0.1, x56, IntKind.wrap .i64 (s0.2.2.1 - 1), decide (((IntKind.wrap .i64 (s0.2.1 - x56)) : Int) ≥ (IntKind.wrap .i64 (Int.tdiv (IntKind.wrap .i64 (s0.2.1 - s0.1)) 8))), x57) h_68))
              else
                CallsH Try.prog 153 [.slice data0a data0l data0c, .int .i64 s0.1, .int .i64 s0.2.1, .int .i64 x0] h_4 fun r76 h_69 =>
                ∃ (x58 : Int), ∃ (x59 : Bool), r76 = .tuple #[.int .i64 x58, .bool x59] ∧
                (8 : Int) ≠ 0 ∧
                (bif decide (((IntKind.wrap .i64 (x58 - s0.1)) : Int) < (IntKind.wrap .i64 (s0.2.1 - x58))) then
                  CallsH Try.prog 135 [.slice data0a data0l data0c, .int .i64 s0.1, .int .i64 x58, .int .i64 (IntKind.wrap .i64 (s0.2.2.1 - 1))] h_69 fun r77 h_70 =>
                  r77 = .tuple #[] ∧
                  again0 (IntKind.wrap .i64 (x58 + 1), s0.2.1, IntKind.wrap .i64 (s0.2.2.1 - 1), decide (((IntKind.wrap .i64 (x58 - s0.1)) : Int) ≥ (IntKind.wrap .i64 (Int.tdiv (IntKind.wrap .i64 (s0.2.1 - s0.1)) 8))), x59) h_70
                else
                  CallsH Try.prog 135 [.slice data0a data0l data0c, .int .i64 (IntKind.wrap .i64 (x58 + 1)), .int .i64 s0.2.1, .int .i64 (IntKind.wrap .i64 (s0.2.2.1 - 1))] h_69 fun r78 h_71 =>
                  r78 = .tuple #[] ∧
                  again0 (s0.1, x58, IntKind.wrap .i64 (s0.2.2.1 - 1), decide (((IntKind.wrap .i64 (s0.2.1 - x58)) : Int) ≥ (IntKind.wrap .i64 (Int.tdiv (IntKind.wrap .i64 (s0.2.1 - s0.1)) 8))), x59) h_71))))
        else
          CallsH Try.prog 148 [.slice data0a data0l data0c, .int .i64 s0.1, .int .i64 s0.2.1] h_0 fun r79 h_72 =>
          ∃ (x60 : Int), ∃ (x61 : Int), r79 = .tuple #[.int .i64 x60, .int .i64 x61] ∧
          (bif (x61 : Int) == 2 then
            CallsH Try.prog 149 [.slice data0a data0l data0c, .int .i64 s0.1, .int .i64 s0.2.1] h_72 fun r80 h_73 =>
            r80 = .tuple #[] ∧
            (bif s0.2.2.2.1 then
              (bif s0.2.2.2.2 then
                (bif (1 : Int) == 1 then
                  CallsH Try.prog 150 [.slice data0a data0l data0c, .int .i64 s0.1, .int .i64 s0.2.1] h_73 fun r81 h_74 =>
                  DB r81 fun x62 =>
                  (bif x62 then
                    Q (.tuple #[]) h_74
                  else
                    (bif decide ((s0.1 : Int) > 0) then
                      IdxA data0a data0l (IntKind.wrap .i64 (s0.1 - 1)) 1 fun a17 =>
                      Ld h_74 a17 fun v16 => DS v16 fun x63 =>
                      IdxA data0a data0l (IntKind.wrap .i64 ((IntKind.wrap .i64 (s0.2.1 - 1)) - (IntKind.wrap .i64 (x60 - s0.1)))) 1 fun a18 =>
                      Ld h_74 a18 fun v17 => DS v17 fun x64 =>
                      ∃ r83, (CallsH Try.prog 151 [.string x63, .string x64] h_74 fun r82 h_75 =>
                      r82 = r83 ∧ h_75 = h_74) ∧
                      DB r83 fun x65 =>
                      (bif !x65 then
                        CallsH Try.prog 152 [.slice data0a data0l data0c, .int .i64 s0.1, .int .i64 s0.2.1, .int .i64 (IntKind.wrap .i64 ((IntKind.wrap .i64 (s0.2.1 - 1)) - (IntKind.wrap .i64 (x60 - s0.1))))] h_74 fun r84 h_76 =>
                        DI .i64 r84 fun mid8 =>
                        again0 (mid8, s0.2.1, s0.2.2.1, s0.2.2.2.1, s0.2.2.2.2) h_76
                      else
                        CallsH Try.prog 153 [.slice data0a data0l data0c, .int .i64 s0.1, .int .i64 s0.2.1, .int .i64 (IntKind.wrap .i64 ((IntKind.wrap .i64 (s0.2.1 - 1)) - (IntKind.wrap .i64 (x60 - s0.1))))] h_74 fun r85 h_77 =>
                        ∃ (x66 : Int), ∃ (x67 : Bool), r85 = .tuple #[.int .i64 x66, .bool x67] ∧
                        (8 : Int) ≠ 0 ∧
                        (bif decide (((IntKind.wrap .i64 (x66 - s0.1)) : Int) < (IntKind.wrap .i64 (s0.2.1 - x66))) then
                          CallsH Try.prog 135 [.slice data0a data0l data0c, .int .i64 s0.1, .int .i64 x66, .int .i64 s0.2.2.1] h_77 fun r86 h_78 =>
                          r86 = .tuple #[] ∧
                          again0 (IntKind.wrap .i64 (x66 + 1), s0.2.1, s0.2.2.1, decide (((IntKind.wrap .i64 (x66 - s0.1)) : Int) ≥ (IntKind.wrap .i64 (Int.tdiv (IntKind.wrap .i64 (s0.2.1 - s0.1)) 8))), x67) h_78
                        else
                          CallsH Try.prog 135 [.slice data0a data0l data0c, .int .i64 (IntKind.wrap .i64 (x66 + 1)), .int .i64 s0.2.1, .int .i64 s0.2.2.1] h_77 fun r87 h_79 =>
                          r87 = .tuple #[] ∧
                          again0 (s0.1, x66, s0.2.2.1, decide (((IntKind.wrap .i64 (s0.2.1 - x66)) : Int) ≥ (IntKind.wrap .i64 (Int.tdiv (IntKind.wrap .i64 (s0.2.1 - s0.1)) 8))), x67) h_79))
                    else
                      CallsH Try.prog 153 [.slice data0a data0l data0c, .int .i64 s0.1, .int .i64 s0.2.1, .int .i64 (IntKind.wrap .i64 ((IntKind.wrap .i64 (s0.2.1 - 1)) - (IntKind.wrap .i64 (x60 - s0.1))))] h_74 fun r88 h_80 =>
                      ∃ (x68 : Int), ∃ (x69 : Bool), r88 = .tuple #[.int .i64 x68, .bool x69] ∧
                      (8 : Int) ≠ 0 ∧
                      (bif decide (((IntKind.wrap .i64 (x68 - s0.1)) : Int) < (IntKind.wrap .i64 (s0.2.1 - x68))) then
                        CallsH Try.prog 135 [.slice data0a data0l data0c, .int .i64 s0.1, .int .i64 x68, .int .i64 s0.2.2.1] h_80 fun r89 h_81 =>
                        r89 = .tuple #[] ∧
                        again0 (IntKind.wrap .i64 (x68 + 1), s0.2.1, s0.2.2.1, decide (((IntKind.wrap .i64 (x68 - s0.1)) : Int) ≥ (IntKind.wrap .i64 (Int.tdiv (IntKind.wrap .i64 (s0.2.1 - s0.1)) 8))), x69) h_81
                      else
                        CallsH Try.prog 135 [.slice data0a data0l data0c, .int .i64 (IntKind.wrap .i64 (x68 + 1)), .int .i64 s0.2.1, .int .i64 s0.2.2.1] h_80 fun r90 h_82 =>
                        r90 = .tuple #[] ∧
                        again0 (s0.1, x68, s0.2.2.1, decide (((IntKind.wrap .i64 (s0.2.1 - x68)) : Int) ≥ (IntKind.wrap .i64 (Int.tdiv (IntKind.wrap .i64 (s0.2.1 - s0.1)) 8))), x69) h_82)))
                else
                  (bif decide ((s0.1 : Int) > 0) then
                    IdxA data0a data0l (IntKind.wrap .i64 (s0.1 - 1)) 1 fun a19 =>
                    Ld h_73 a19 fun v18 => DS v18 fun x70 =>
                    IdxA data0a data0l (IntKind.wrap .i64 ((IntKind.wrap .i64 (s0.2.1 - 1)) - (IntKind.wrap .i64 (x60 - s0.1)))) 1 fun a20 =>
                    Ld h_73 a20 fun v19 => DS v19 fun x71 =>
                    ∃ r92, (CallsH Try.prog 151 [.string x70, .string x71] h_73 fun r91 h_83 =>
                    r91 = r92 ∧ h_83 = h_73) ∧
                    DB r92 fun x72 =>
                    (bif !x72 then
                      CallsH Try.prog 152 [.slice data0a data0l data0c, .int .i64 s0.1, .int .i64 s0.2.1, .int .i64 (IntKind.wrap .i64 ((IntKind.wrap .i64 (s0.2.1 - 1)) - (IntKind.wrap .i64 (x60 - s0.1))))] h_73 fun r93 h_84 =>
                      DI .i64 r93 fun mid9 =>
                      again0 (mid9, s0.2.1, s0.2.2.1, s0.2.2.2.1, s0.2.2.2.2) h_84
                    else
                      CallsH Try.prog 153 [.slice data0a data0l data0c, .int .i64 s0.1, .int .i64 s0.2.1, .int .i64 (IntKind.wrap .i64 ((IntKind.wrap .i64 (s0.2.1 - 1)) - (IntKind.wrap .i64 (x60 - s0.1))))] h_73 fun r94 h_85 =>
                      ∃ (x73 : Int), ∃ (x74 : Bool), r94 = .tuple #[.int .i64 x73, .bool x74] ∧
                      (8 : Int) ≠ 0 ∧
                      (bif decide (((IntKind.wrap .i64 (x73 - s0.1)) : Int) < (IntKind.wrap .i64 (s0.2.1 - x73))) then
                        CallsH Try.prog 135 [.slice data0a data0l data0c, .int .i64 s0.1, .int .i64 x73, .int .i64 s0.2.2.1] h_85 fun r95 h_86 =>
                        r95 = .tuple #[] ∧
                        again0 (IntKind.wrap .i64 (x73 + 1), s0.2.1, s0.2.2.1, decide (((IntKind.wrap .i64 (x73 - s0.1)) : Int) ≥ (IntKind.wrap .i64 (Int.tdiv (IntKind.wrap .i64 (s0.2.1 - s0.1)) 8))), x74) h_86
                      else
                        CallsH Try.prog 135 [.slice data0a data0l data0c, .int .i64 (IntKind.wrap .i64 (x73 + 1)), .int .i64 s0.2.1, .int .i64 s0.2.2.1] h_85 fun r96 h_87 =>
                        r96 = .tuple #[] ∧
                        again0 (s0.1, x73, s0.2.2.1, decide (((IntKind.wrap .i64 (s0.2.1 - x73)) : Int) ≥ (IntKind.wrap .i64 (Int.tdiv (IntKind.wrap .i64 (s0.2.1 - s0.1)) 8))), x74) h_87))
                  else
                    CallsH Try.prog 153 [.slice data0a data0l data0c, .int .i64 s0.1, .int .i64 s0.2.1, .int .i64 (IntKind.wrap .i64 ((IntKind.wrap .i64 (s0.2.1 - 1)) - (IntKind.wrap .i64 (x60 - s0.1))))] h_73 fun r97 h_88 =>
                    ∃ (x75 : Int), ∃ (x76 : Bool), r97 = .tuple #[.int .i64 x75, .bool x76] ∧
                    (8 : Int) ≠ 0 ∧
                    (bif decide (((IntKind.wrap .i64 (x75 - s0.1)) : Int) < (IntKind.wrap .i64 (s0.2.1 - x75))) then
                      CallsH Try.prog 135 [.slice data0a data0l data0c, .int .i64 s0.1, .int .i64 x75, .int .i64 s0.2.2.1] h_88 fun r98 h_89 =>
                      r98 = .tuple #[] ∧
                      again0 (IntKind.wrap .i64 (x75 + 1), s0.2.1, s0.2.2.1, decide (((IntKind.wrap .i64 (x75 - s0.1)) : Int) ≥ (IntKind.wrap .i64 (Int.tdiv (IntKind.wrap .i64 (s0.2.1 - s0.1)) 8))), x76) h_89
                    else
                      CallsH Try.prog 135 [.slice data0a data0l data0c, .int .i64 (IntKind.wrap .i64 (x75 + 1)), .int .i64 s0.2.1, .int .i64 s0.2.2.1] h_88 fun r99 h_90 =>
                      r99 = .tuple #[] ∧
                      again0 (s0.1, x75, s0.2.2.1, decide (((IntKind.wrap .i64 (s0.2.1 - x75)) : Int) ≥ (IntKind.wrap .i64 (Int.tdiv (IntKind.wrap .i64 (s0.2.1 - s0.1)) 8))), x76) h_90)))
              else
                (bif decide ((s0.1 : Int) > 0) then
                  IdxA data0a data0l (IntKind.wrap .i64 (s0.1 - 1)) 1 fun a21 =>
                  Ld h_73 a21 fun v20 => DS v20 fun x77 =>
                  IdxA data0a data0l (IntKind.wrap .i64 ((IntKind.wrap .i64 (s0.2.1 - 1)) - (IntKind.wrap .i64 (x60 - s0.1)))) 1 fun a22 =>
                  Ld h_73 a22 fun v21 => DS v21 fun x78 =>
                  ∃ r101, (CallsH Try.prog 151 [.string x77, .string x78] h_73 fun r100 h_91 =>
                  r100 = r101 ∧ h_91 = h_73) ∧
                  DB r101 fun x79 =>
                  (bif !x79 then
                    CallsH Try.prog 152 [.slice data0a data0l data0c, .int .i64 s0.1, .int .i64 s0.2.1, .int .i64 (IntKind.wrap .i64 ((IntKind.wrap .i64 (s0.2.1 - 1)) - (IntKind.wrap .i64 (x60 - s0.1))))] h_73 fun r102 h_92 =>
                    DI .i64 r102 fun mid10 =>
                    again0 (mid10, s0.2.1, s0.2.2.1, s0.2.2.2.1, s0.2.2.2.2) h_92
                  else
                    CallsH Try.prog 153 [.slice data0a data0l data0c, .int .i64 s0.1, .int .i64 s0.2.1, .int .i64 (IntKind.wrap .i64 ((IntKind.wrap .i64 (s0.2.1 - 1)) - (IntKind.wrap .i64 (x60 - s0.1))))] h_73 fun r103 h_93 =>
                    ∃ (x80 : Int), ∃ (x81 : Bool), r103 = .tuple #[.int .i64 x80, .bool x81] ∧
                    (8 : Int) ≠ 0 ∧
                    (bif decide (((IntKind.wrap .i64 (x80 - s0.1)) : Int) < (IntKind.wrap .i64 (s0.2.1 - x80))) then
                      CallsH Try.prog 135 [.slice data0a data0l data0c, .int .i64 s0.1, .int .i64 x80, .int .i64 s0.2.2.1] h_93 fun r104 h_94 =>
                      r104 = .tuple #[] ∧
                      again0 (IntKind.wrap .i64 (x80 + 1), s0.2.1, s0.2.2.1, decide (((IntKind.wrap .i64 (x80 - s0.1)) : Int) ≥ (IntKind.wrap .i64 (Int.tdiv (IntKind.wrap .i64 (s0.2.1 - s0.1)) 8))), x81) h_94
                    else
                      CallsH Try.prog 135 [.slice data0a data0l data0c, .int .i64 (IntKind.wrap .i64 (x80 + 1)), .int .i64 s0.2.1, .int .i64 s0.2.2.1] h_93 fun r105 h_95 =>
                      r105 = .tuple #[] ∧
                      again0 (s0.1, x80, s0.2.2.1, decide (((IntKind.wrap .i64 (s0.2.1 - x80)) : Int) ≥ (IntKind.wrap .i64 (Int.tdiv (IntKind.wrap .i64 (s0.2.1 - s0.1)) 8))), x81) h_95))
                else
                  CallsH Try.prog 153 [.slice data0a data0l data0c, .int .i64 s0.1, .int .i64 s0.2.1, .int .i64 (IntKind.wrap .i64 ((IntKind.wrap .i64 (s0.2.1 - 1)) - (IntKind.wrap .i64 (x60 - s0.1))))] h_73 fun r106 h_96 =>
                  ∃ (x82 : Int), ∃ (x83 : Bool), r106 = .tuple #[.int .i64 x82, .bool x83] ∧
                  (8 : Int) ≠ 0 ∧
                  (bif decide (((IntKind.wrap .i64 (x82 - s0.1)) : Int) < (IntKind.wrap .i64 (s0.2.1 - x82))) then
                    CallsH Try.prog 135 [.slice data0a data0l data0c, .int .i64 s0.1, .int .i64 x82, .int .i64 s0.2.2.1] h_96 fun r107 h_97 =>
                    r107 = .tuple #[] ∧
                    again0 (IntKind.wrap .i64 (x82 + 1), s0.2.1, s0.2.2.1, decide (((IntKind.wrap .i64 (x82 - s0.1)) : Int) ≥ (IntKind.wrap .i64 (Int.tdiv (IntKind.wrap .i64 (s0.2.1 - s0.1)) 8))), x83) h_97
                  else
                    CallsH Try.prog 135 [.slice data0a data0l data0c, .int .i64 (IntKind.wrap .i64 (x82 + 1)), .int .i64 s0.2.1, .int .i64 s0.2.2.1] h_96 fun r108 h_98 =>
                    r108 = .tuple #[] ∧
                    again0 (s0.1, x82, s0.2.2.1, decide (((IntKind.wrap .i64 (s0.2.1 - x82)) : Int) ≥ (IntKind.wrap .i64 (Int.tdiv (IntKind.wrap .i64 (s0.2.1 - s0.1)) 8))), x83) h_98)))
            else
              (bif decide ((s0.1 : Int) > 0) then
                IdxA data0a data0l (IntKind.wrap .i64 (s0.1 - 1)) 1 fun a23 =>
                Ld h_73 a23 fun v22 => DS v22 fun x84 =>
                IdxA data0a data0l (IntKind.wrap .i64 ((IntKind.wrap .i64 (s0.2.1 - 1)) - (IntKind.wrap .i64 (x60 - s0.1)))) 1 fun a24 =>
                Ld h_73 a24 fun v23 => DS v23 fun x85 =>
                ∃ r110, (CallsH Try.prog 151 [.string x84, .string x85] h_73 fun r109 h_99 =>
                r109 = r110 ∧ h_99 = h_73) ∧
                DB r110 fun x86 =>
                (bif !x86 then
                  CallsH Try.prog 152 [.slice data0a data0l data0c, .int .i64 s0.1, .int .i64 s0.2.1, .int .i64 (IntKind.wrap .i64 ((IntKind.wrap .i64 (s0.2.1 - 1)) - (IntKind.wrap .i64 (x60 - s0.1))))] h_73 fun r111 h_100 =>
                  DI .i64 r111 fun mid11 =>
                  again0 (mid11, s0.2.1, s0.2.2.1, s0.2.2.2.1, s0.2.2.2.2) h_100
                else
                  CallsH Try.prog 153 [.slice data0a data0l data0c, .int .i64 s0.1, .int .i64 s0.2.1, .int .i64 (IntKind.wrap .i64 ((IntKind.wrap .i64 (s0.2.1 - 1)) - (IntKind.wrap .i64 (x60 - s0.1))))] h_73 fun r112 h_101 =>
                  ∃ (x87 : Int), ∃ (x88 : Bool), r112 = .tuple #[.int .i64 x87, .bool x88] ∧
                  (8 : Int) ≠ 0 ∧
                  (bif decide (((IntKind.wrap .i64 (x87 - s0.1)) : Int) < (IntKind.wrap .i64 (s0.2.1 - x87))) then
                    CallsH Try.prog 135 [.slice data0a data0l data0c, .int .i64 s0.1, .int .i64 x87, .int .i64 s0.2.2.1] h_101 fun r113 h_102 =>
                    r113 = .tuple #[] ∧
                    again0 (IntKind.wrap .i64 (x87 + 1), s0.2.1, s0.2.2.1, decide (((IntKind.wrap .i64 (x87 - s0.1)) : Int) ≥ (IntKind.wrap .i64 (Int.tdiv (IntKind.wrap .i64 (s0.2.1 - s0.1)) 8))), x88) h_102
                  else
                    CallsH Try.prog 135 [.slice data0a data0l data0c, .int .i64 (IntKind.wrap .i64 (x87 + 1)), .int .i64 s0.2.1, .int .i64 s0.2.2.1] h_101 fun r114 h_103 =>
                    r114 = .tuple #[] ∧
                    again0 (s0.1, x87, s0.2.2.1, decide (((IntKind.wrap .i64 (s0.2.1 - x87)) : Int) ≥ (IntKind.wrap .i64 (Int.tdiv (IntKind.wrap .i64 (s0.2.1 - s0.1)) 8))), x88) h_103))
              else
                CallsH Try.prog 153 [.slice data0a data0l data0c, .int .i64 s0.1, .int .i64 s0.2.1, .int .i64 (IntKind.wrap .i64 ((IntKind.wrap .i64 (s0.2.1 - 1)) - (IntKind.wrap .i64 (x60 - s0.1))))] h_73 fun r115 h_104 =>
                ∃ (x89 : Int), ∃ (x90 : Bool), r115 = .tuple #[.int .i64 x89, .bool x90] ∧
                (8 : Int) ≠ 0 ∧
                (bif decide (((IntKind.wrap .i64 (x89 - s0.1)) : Int) < (IntKind.wrap .i64 (s0.2.1 - x89))) then
                  CallsH Try.prog 135 [.slice data0a data0l data0c, .int .i64 s0.1, .int .i64 x89, .int .i64 s0.2.2.1] h_104 fun r116 h_105 =>
                  r116 = .tuple #[] ∧
                  again0 (IntKind.wrap .i64 (x89 + 1), s0.2.1, s0.2.2.1, decide (((IntKind.wrap .i64 (x89 - s0.1)) : Int) ≥ (IntKind.wrap .i64 (Int.tdiv (IntKind.wrap .i64 (s0.2.1 - s0.1)) 8))), x90) h_105
                else
                  CallsH Try.prog 135 [.slice data0a data0l data0c, .int .i64 (IntKind.wrap .i64 (x89 + 1)), .int .i64 s0.2.1, .int .i64 s0.2.2.1] h_104 fun r117 h_106 =>
                  r117 = .tuple #[] ∧
                  again0 (s0.1, x89, s0.2.2.1, decide (((IntKind.wrap .i64 (s0.2.1 - x89)) : Int) ≥ (IntKind.wrap .i64 (Int.tdiv (IntKind.wrap .i64 (s0.2.1 - s0.1)) 8))), x90) h_106)))
          else
            (bif s0.2.2.2.1 then
              (bif s0.2.2.2.2 then
                (bif (x61 : Int) == 1 then
                  CallsH Try.prog 150 [.slice data0a data0l data0c, .int .i64 s0.1, .int .i64 s0.2.1] h_72 fun r118 h_107 =>
                  DB r118 fun x91 =>
                  (bif x91 then
                    Q (.tuple #[]) h_107
                  else
                    (bif decide ((s0.1 : Int) > 0) then
                      IdxA data0a data0l (IntKind.wrap .i64 (s0.1 - 1)) 1 fun a25 =>
                      Ld h_107 a25 fun v24 => DS v24 fun x92 =>
                      IdxA data0a data0l x60 1 fun a26 =>
                      Ld h_107 a26 fun v25 => DS v25 fun x93 =>
                      ∃ r120, (CallsH Try.prog 151 [.string x92, .string x93] h_107 fun r119 h_108 =>
                      r119 = r120 ∧ h_108 = h_107) ∧
                      DB r120 fun x94 =>
                      (bif !x94 then
                        CallsH Try.prog 152 [.slice data0a data0l data0c, .int .i64 s0.1, .int .i64 s0.2.1, .int .i64 x60] h_107 fun r121 h_109 =>
                        DI .i64 r121 fun mid12 =>
                        again0 (mid12, s0.2.1, s0.2.2.1, s0.2.2.2.1, s0.2.2.2.2) h_109
                      else
                        CallsH Try.prog 153 [.slice data0a data0l data0c, .int .i64 s0.1, .int .i64 s0.2.1, .int .i64 x60] h_107 fun r122 h_110 =>
                        ∃ (x95 : Int), ∃ (x96 : Bool), r122 = .tuple #[.int .i64 x95, .bool x96] ∧
                        (8 : Int) ≠ 0 ∧
                        (bif decide (((IntKind.wrap .i64 (x95 - s0.1)) : Int) < (IntKind.wrap .i64 (s0.2.1 - x95))) then
                          CallsH Try.prog 135 [.slice data0a data0l data0c, .int .i64 s0.1, .int .i64 x95, .int .i64 s0.2.2.1] h_110 fun r123 h_111 =>
                          r123 = .tuple #[] ∧
                          again0 (IntKind.wrap .i64 (x95 + 1), s0.2.1, s0.2.2.1, decide (((IntKind.wrap .i64 (x95 - s0.1)) : Int) ≥ (IntKind.wrap .i64 (Int.tdiv (IntKind.wrap .i64 (s0.2.1 - s0.1)) 8))), x96) h_111
                        else
                          CallsH Try.prog 135 [.slice data0a data0l data0c, .int .i64 (IntKind.wrap .i64 (x95 + 1)), .int .i64 s0.2.1, .int .i64 s0.2.2.1] h_110 fun r124 h_112 =>
                          r124 = .tuple #[] ∧
                          again0 (s0.1, x95, s0.2.2.1, decide (((IntKind.wrap .i64 (s0.2.1 - x95)) : Int) ≥ (IntKind.wrap .i64 (Int.tdiv (IntKind.wrap .i64 (s0.2.1 - s0.1)) 8))), x96) h_112))
                    else
                      CallsH Try.prog 153 [.slice data0a data0l data0c, .int .i64 s0.1, .int .i64 s0.2.1, .int .i64 x60] h_107 fun r125 h_113 =>
                      ∃ (x97 : Int), ∃ (x98 : Bool), r125 = .tuple #[.int .i64 x97, .bool x98] ∧
                      (8 : Int) ≠ 0 ∧
                      (bif decide (((IntKind.wrap .i64 (x97 - s0.1)) : Int) < (IntKind.wrap .i64 (s0.2.1 - x97))) then
                        CallsH Try.prog 135 [.slice data0a data0l data0c, .int .i64 s0.1, .int .i64 x97, .int .i64 s0.2.2.1] h_113 fun r126 h_114 =>
                        r126 = .tuple #[] ∧
                        again0 (IntKind.wrap .i64 (x97 + 1), s0.2.1, s0.2.2.1, decide (((IntKind.wrap .i64 (x97 - s0.1)) : Int) ≥ (IntKind.wrap .i64 (Int.tdiv (IntKind.wrap .i64 (s0.2.1 - s0.1)) 8))), x98) h_114
                      else
                        CallsH Try.prog 135 [.slice data0a data0l data0c, .int .i64 (IntKind.wrap .i64 (x97 + 1)), .int .i64 s0.2.1, .int .i64 s0.2.2.1] h_113 fun r127 h_115 =>
                        r127 = .tuple #[] ∧
                        again0 (s0.1, x97, s0.2.2.1, decide (((IntKind.wrap .i64 (s0.2.1 - x97)) : Int) ≥ (IntKind.wrap .i64 (Int.tdiv (IntKind.wrap .i64 (s0.2.1 - s0.1)) 8))), x98) h_115)))
                else
                  (bif decide ((s0.1 : Int) > 0) then
                    IdxA data0a data0l (IntKind.wrap .i64 (s0.1 - 1)) 1 fun a27 =>
                    Ld h_72 a27 fun v26 => DS v26 fun x99 =>
                    IdxA data0a data0l x60 1 fun a28 =>
                    Ld h_72 a28 fun v27 => DS v27 fun x100 =>
                    ∃ r129, (CallsH Try.prog 151 [.string x99, .string x100] h_72 fun r128 h_116 =>
                    r128 = r129 ∧ h_116 = h_72) ∧
                    DB r129 fun x101 =>
                    (bif !x101 then
                      CallsH Try.prog 152 [.slice data0a data0l data0c, .int .i64 s0.1, .int .i64 s0.2.1, .int .i64 x60] h_72 fun r130 h_117 =>
                      DI .i64 r130 fun mid13 =>
                      again0 (mid13, s0.2.1, s0.2.2.1, s0.2.2.2.1, s0.2.2.2.2) h_117
                    else
                      CallsH Try.prog 153 [.slice data0a data0l data0c, .int .i64 s0.1, .int .i64 s0.2.1, .int .i64 x60] h_72 fun r131 h_118 =>
                      ∃ (x102 : Int), ∃ (x103 : Bool), r131 = .tuple #[.int .i64 x102, .bool x103] ∧
                      (8 : Int) ≠ 0 ∧
                      (bif decide (((IntKind.wrap .i64 (x102 - s0.1)) : Int) < (IntKind.wrap .i64 (s0.2.1 - x102))) then
                        CallsH Try.prog 135 [.slice data0a data0l data0c, .int .i64 s0.1, .int .i64 x102, .int .i64 s0.2.2.1] h_118 fun r132 h_119 =>
                        r132 = .tuple #[] ∧
                        again0 (IntKind.wrap .i64 (x102 + 1), s0.2.1, s0.2.2.1, decide (((IntKind.wrap .i64 (x102 - s0.1)) : Int) ≥ (IntKind.wrap .i64 (Int.tdiv (IntKind.wrap .i64 (s0.2.1 - s0.1)) 8))), x103) h_119
                      else
                        CallsH Try.prog 135 [.slice data0a data0l data0c, .int .i64 (IntKind.wrap .i64 (x102 + 1)), .int .i64 s0.2.1, .int .i64 s0.2.2.1] h_118 fun r133 h_120 =>
                        r133 = .tuple #[] ∧
                        again0 (s0.1, x102, s0.2.2.1, decide (((IntKind.wrap .i64 (s0.2.1 - x102)) : Int) ≥ (IntKind.wrap .i64 (Int.tdiv (IntKind.wrap .i64 (s0.2.1 - s0.1)) 8))), x103) h_120))
                  else
                    CallsH Try.prog 153 [.slice data0a data0l data0c, .int .i64 s0.1, .int .i64 s0.2.1, .int .i64 x60] h_72 fun r134 h_121 =>
                    ∃ (x104 : Int), ∃ (x105 : Bool), r134 = .tuple #[.int .i64 x104, .bool x105] ∧
                    (8 : Int) ≠ 0 ∧
                    (bif decide (((IntKind.wrap .i64 (x104 - s0.1)) : Int) < (IntKind.wrap .i64 (s0.2.1 - x104))) then
                      CallsH Try.prog 135 [.slice data0a data0l data0c, .int .i64 s0.1, .int .i64 x104, .int .i64 s0.2.2.1] h_121 fun r135 h_122 =>
                      r135 = .tuple #[] ∧
                      again0 (IntKind.wrap .i64 (x104 + 1), s0.2.1, s0.2.2.1, decide (((IntKind.wrap .i64 (x104 - s0.1)) : Int) ≥ (IntKind.wrap .i64 (Int.tdiv (IntKind.wrap .i64 (s0.2.1 - s0.1)) 8))), x105) h_122
                    else
                      CallsH Try.prog 135 [.slice data0a data0l data0c, .int .i64 (IntKind.wrap .i64 (x104 + 1)), .int .i64 s0.2.1, .int .i64 s0.2.2.1] h_121 fun r136 h_123 =>
                      r136 = .tuple #[] ∧
                      again0 (s0.1, x104, s0.2.2.1, decide (((IntKind.wrap .i64 (s0.2.1 - x104)) : Int) ≥ (IntKind.wrap .i64 (Int.tdiv (IntKind.wrap .i64 (s0.2.1 - s0.1)) 8))), x105) h_123)))
              else
                (bif decide ((s0.1 : Int) > 0) then
                  IdxA data0a data0l (IntKind.wrap .i64 (s0.1 - 1)) 1 fun a29 =>
                  Ld h_72 a29 fun v28 => DS v28 fun x106 =>
                  IdxA data0a data0l x60 1 fun a30 =>
                  Ld h_72 a30 fun v29 => DS v29 fun x107 =>
                  ∃ r138, (CallsH Try.prog 151 [.string x106, .string x107] h_72 fun r137 h_124 =>
                  r137 = r138 ∧ h_124 = h_72) ∧
                  DB r138 fun x108 =>
                  (bif !x108 then
                    CallsH Try.prog 152 [.slice data0a data0l data0c, .int .i64 s0.1, .int .i64 s0.2.1, .int .i64 x60] h_72 fun r139 h_125 =>
                    DI .i64 r139 fun mid14 =>
                    again0 (mid14, s0.2.1, s0.2.2.1, s0.2.2.2.1, s0.2.2.2.2) h_125
                  else
                    CallsH Try.prog 153 [.slice data0a data0l data0c, .int .i64 s0.1, .int .i64 s0.2.1, .int .i64 x60] h_72 fun r140 h_126 =>
                    ∃ (x109 : Int), ∃ (x110 : Bool), r140 = .tuple #[.int .i64 x109, .bool x110] ∧
                    (8 : Int) ≠ 0 ∧
                    (bif decide (((IntKind.wrap .i64 (x109 - s0.1)) : Int) < (IntKind.wrap .i64 (s0.2.1 - x109))) then
                      CallsH Try.prog 135 [.slice data0a data0l data0c, .int .i64 s0.1, .int .i64 x109, .int .i64 s0.2.2.1] h_126 fun r141 h_127 =>
                      r141 = .tuple #[] ∧
                      again0 (IntKind.wrap .i64 (x109 + 1), s0.2.1, s0.2.2.1, decide (((IntKind.wrap .i64 (x109 - s0.1)) : Int) ≥ (IntKind.wrap .i64 (Int.tdiv (IntKind.wrap .i64 (s0.2.1 - s0.1)) 8))), x110) h_127
                    else
                      CallsH Try.prog 135 [.slice data0a data0l data0c, .int .i64 (IntKind.wrap .i64 (x109 + 1)), .int .i64 s0.2.1, .int .i64 s0.2.2.1] h_126 fun r142 h_128 =>
                      r142 = .tuple #[] ∧
                      again0 (s0.1, x109, s0.2.2.1, decide (((IntKind.wrap .i64 (s0.2.1 - x109)) : Int) ≥ (IntKind.wrap .i64 (Int.tdiv (IntKind.wrap .i64 (s0.2.1 - s0.1)) 8))), x110) h_128))
                else
                  CallsH Try.prog 153 [.slice data0a data0l data0c, .int .i64 s0.1, .int .i64 s0.2.1, .int .i64 x60] h_72 fun r143 h_129 =>
                  ∃ (x111 : Int), ∃ (x112 : Bool), r143 = .tuple #[.int .i64 x111, .bool x112] ∧
                  (8 : Int) ≠ 0 ∧
                  (bif decide (((IntKind.wrap .i64 (x111 - s0.1)) : Int) < (IntKind.wrap .i64 (s0.2.1 - x111))) then
                    CallsH Try.prog 135 [.slice data0a data0l data0c, .int .i64 s0.1, .int .i64 x111, .int .i64 s0.2.2.1] h_129 fun r144 h_130 =>
                    r144 = .tuple #[] ∧
                    again0 (IntKind.wrap .i64 (x111 + 1), s0.2.1, s0.2.2.1, decide (((IntKind.wrap .i64 (x111 - s0.1)) : Int) ≥ (IntKind.wrap .i64 (Int.tdiv (IntKind.wrap .i64 (s0.2.1 - s0.1)) 8))), x112) h_130
                  else
                    CallsH Try.prog 135 [.slice data0a data0l data0c, .int .i64 (IntKind.wrap .i64 (x111 + 1)), .int .i64 s0.2.1, .int .i64 s0.2.2.1] h_129 fun r145 h_131 =>
                    r145 = .tuple #[] ∧
                    again0 (s0.1, x111, s0.2.2.1, decide (((IntKind.wrap .i64 (s0.2.1 - x111)) : Int) ≥ (IntKind.wrap .i64 (Int.tdiv (IntKind.wrap .i64 (s0.2.1 - s0.1)) 8))), x112) h_131)))
            else
              (bif decide ((s0.1 : Int) > 0) then
                IdxA data0a data0l (IntKind.wrap .i64 (s0.1 - 1)) 1 fun a31 =>
                Ld h_72 a31 fun v30 => DS v30 fun x113 =>
                IdxA data0a data0l x60 1 fun a32 =>
                Ld h_72 a32 fun v31 => DS v31 fun x114 =>
                ∃ r147, (CallsH Try.prog 151 [.string x113, .string x114] h_72 fun r146 h_132 =>
                r146 = r147 ∧ h_132 = h_72) ∧
                DB r147 fun x115 =>
                (bif !x115 then
                  CallsH Try.prog 152 [.slice data0a data0l data0c, .int .i64 s0.1, .int .i64 s0.2.1, .int .i64 x60] h_72 fun r148 h_133 =>
                  DI .i64 r148 fun mid15 =>
                  again0 (mid15, s0.2.1, s0.2.2.1, s0.2.2.2.1, s0.2.2.2.2) h_133
                else
                  CallsH Try.prog 153 [.slice data0a data0l data0c, .int .i64 s0.1, .int .i64 s0.2.1, .int .i64 x60] h_72 fun r149 h_134 =>
                  ∃ (x116 : Int), ∃ (x117 : Bool), r149 = .tuple #[.int .i64 x116, .bool x117] ∧
                  (8 : Int) ≠ 0 ∧
                  (bif decide (((IntKind.wrap .i64 (x116 - s0.1)) : Int) < (IntKind.wrap .i64 (s0.2.1 - x116))) then
                    CallsH Try.prog 135 [.slice data0a data0l data0c, .int .i64 s0.1, .int .i64 x116, .int .i64 s0.2.2.1] h_134 fun r150 h_135 =>
                    r150 = .tuple #[] ∧
                    again0 (IntKind.wrap .i64 (x116 + 1), s0.2.1, s0.2.2.1, decide (((IntKind.wrap .i64 (x116 - s0.1)) : Int) ≥ (IntKind.wrap .i64 (Int.tdiv (IntKind.wrap .i64 (s0.2.1 - s0.1)) 8))), x117) h_135
                  else
                    CallsH Try.prog 135 [.slice data0a data0l data0c, .int .i64 (IntKind.wrap .i64 (x116 + 1)), .int .i64 s0.2.1, .int .i64 s0.2.2.1] h_134 fun r151 h_136 =>
                    r151 = .tuple #[] ∧
                    again0 (s0.1, x116, s0.2.2.1, decide (((IntKind.wrap .i64 (s0.2.1 - x116)) : Int) ≥ (IntKind.wrap .i64 (Int.tdiv (IntKind.wrap .i64 (s0.2.1 - s0.1)) 8))), x117) h_136))
              else
                CallsH Try.prog 153 [.slice data0a data0l data0c, .int .i64 s0.1, .int .i64 s0.2.1, .int .i64 x60] h_72 fun r152 h_137 =>
                ∃ (x118 : Int), ∃ (x119 : Bool), r152 = .tuple #[.int .i64 x118, .bool x119] ∧
                (8 : Int) ≠ 0 ∧
                (bif decide (((IntKind.wrap .i64 (x118 - s0.1)) : Int) < (IntKind.wrap .i64 (s0.2.1 - x118))) then
                  CallsH Try.prog 135 [.slice data0a data0l data0c, .int .i64 s0.1, .int .i64 x118, .int .i64 s0.2.2.1] h_137 fun r153 h_138 =>
                  r153 = .tuple #[] ∧
                  again0 (IntKind.wrap .i64 (x118 + 1), s0.2.1, s0.2.2.1, decide (((IntKind.wrap .i64 (x118 - s0.1)) : Int) ≥ (IntKind.wrap .i64 (Int.tdiv (IntKind.wrap .i64 (s0.2.1 - s0.1)) 8))), x119) h_138
                else
                  CallsH Try.prog 135 [.slice data0a data0l data0c, .int .i64 (IntKind.wrap .i64 (x118 + 1)), .int .i64 s0.2.1, .int .i64 s0.2.2.1] h_137 fun r154 h_139 =>
                  r154 = .tuple #[] ∧
                  again0 (s0.1, x118, s0.2.2.1, decide (((IntKind.wrap .i64 (s0.2.1 - x118)) : Int) ≥ (IntKind.wrap .i64 (Int.tdiv (IntKind.wrap .i64 (s0.2.1 - s0.1)) 8))), x119) h_139)))))))) (a0, b0, limit0, true, true) h
theorem F135_eq : (fun (data0a : Option Addr) (data0l : Nat) (data0c : Nat) (a0 : Int) (b0 : Int) (limit0 : Int) (h : Heap) (Q : Value → Heap → Prop) => fnPT Try.prog Try.f135 (fun i => bif Nat.beq i 0 then annCons 1 (codI .i64) (annCons 2 (codI .i64) (annCons 3 (codI .i64) (annCons 8 (codB) (annOne 9 (codB))))) else annNil) (fun _ => []) (fun _ => none) [.slice data0a data0l data0c, .int .i64 a0, .int .i64 b0, .int .i64 limit0] h Q) = F135 := by kernel_rfl
theorem F135_ok {data0a : Option Addr} {data0l : Nat} {data0c : Nat} {a0 : Int} {b0 : Int} {limit0 : Int} {h : Heap} {Q : Value → Heap → Prop} (H : F135 data0a data0l data0c a0 b0 limit0 h Q) : CallsH Try.prog 135 [.slice data0a data0l data0c, .int .i64 a0, .int .i64 b0, .int .i64 limit0] h Q :=
  callsH_of (ann := fun i => bif Nat.beq i 0 then annCons 1 (codI .i64) (annCons 2 (codI .i64) (annCons 3 (codI .i64) (annCons 8 (codB) (annOne 9 (codB))))) else annNil) (tys := fun _ => []) (pl := fun _ => none) Try.func135 (by kernel_rfl) (by have e := F135_eq; exact (congrFun (congrFun (congrFun (congrFun (congrFun (congrFun (congrFun (congrFun (e) data0a) data0l) data0c) a0) b0) limit0) h) Q).symm ▸ H)

/-- math/bits.Len -/
def F136 (x0 : Int) (h : Heap) (Q : Value → Heap → Prop) : Prop :=
  CallsH Try.prog 155 [.int .u64 x0] h fun r0 h_0 =>
  DI .i64 r0 fun x1 =>
  Q (.int .i64 x1) h_0
theorem F136_eq : (fun (x0 : Int) (h : Heap) (Q : Value → Heap → Prop) => fnPT Try.prog Try.f136 (fun _ => annNil) (fun _ => []) (fun _ => none) [.int .u64 x0] h Q) = F136 := by kernel_rfl
theorem F136_ok {x0 : Int} {h : Heap} {Q : Value → Heap → Prop} (H : F136 x0 h Q) : CallsH Try.prog 136 [.int .u64 x0] h Q :=
  callsH_of (ann := fun _ => annNil) (tys := fun _ => []) (pl := fun _ => none) Try.func136 (by kernel_rfl) (by have e := F136_eq; exact (congrFun (congrFun (congrFun (e) x0) h) Q).symm ▸ H)

/-- headgate/headgateref06.drop -/
def F137 (l_0a : Option Addr) (l_0l : Nat) (l_0c : Nat) (name0 : ByteArray) (h : Heap) (Q : Value → Heap → Prop) : Prop :=
  LoopH (fun again0 (s0 : Sl × Int) h_0 =>
    (bif decide ((s0.2 : Int) < (l_0l : Int)) then
      IdxA l_0a l_0l s0.2 2 fun a0 =>
      Ld h_0 (a0.add 0) fun v0 => DS v0 fun x0 =>
      (bif !strEq x0 name0 then
        IdxA l_0a l_0l s0.2 2 fun a1 =>
        Ld h_0 (a1.add 0) fun c0 =>
        Ld h_0 (a1.add 1) fun c1 =>
        ∃ (x1 : ByteArray), ∃ (x2 : Int), (Value.agg #[c0, c1]) = .agg #[.string x1, .int .i64 x2] ∧
        Al h_0 (.cells #[.string x1, .int .i64 x2] 163) fun b0 h_1 =>
        RunH Try.prog (Builtin.append_ #[118, 118] 118 #[.slice s0.1.a s0.1.l s0.1.c, .slice (some (Addr.mk b0 0 none)) 1 1]) h_1 fun r1 h_2 =>
        DSl r1 fun out0a out0l out0c =>
        again0 (⟨out0a, out0l, out0c⟩, IntKind.wrap .i64 (s0.2 + 1)) h_2
      else
        again0 (⟨s0.1.a, s0.1.l, s0.1.c⟩, IntKind.wrap .i64 (s0.2 + 1)) h_0)
    else
      Q (.slice s0.1.a s0.1.l s0.1.c) h_0)) (⟨none, 0, 0⟩, 0) h
theorem F137_eq : (fun (l_0a : Option Addr) (l_0l : Nat) (l_0c : Nat) (name0 : ByteArray) (h : Heap) (Q : Value → Heap → Prop) => fnPT Try.prog Try.f137 (fun i => bif Nat.beq i 0 then annCons 5 (codSl) (annOne 6 (codI .i64)) else annNil) (fun _ => []) (fun _ => none) [.slice l_0a l_0l l_0c, .string name0] h Q) = F137 := by kernel_rfl
theorem F137_ok {l_0a : Option Addr} {l_0l : Nat} {l_0c : Nat} {name0 : ByteArray} {h : Heap} {Q : Value → Heap → Prop} (H : F137 l_0a l_0l l_0c name0 h Q) : CallsH Try.prog 137 [.slice l_0a l_0l l_0c, .string name0] h Q :=
  callsH_of (ann := fun i => bif Nat.beq i 0 then annCons 5 (codSl) (annOne 6 (codI .i64)) else annNil) (tys := fun _ => []) (pl := fun _ => none) Try.func137 (by kernel_rfl) (by have e := F137_eq; exact (congrFun (congrFun (congrFun (congrFun (congrFun (congrFun (e) l_0a) l_0l) l_0c) name0) h) Q).symm ▸ H)

/-- headgate/headgateref06.Right -/
def F138 (s0 : ByteArray) (h : Heap) (Q : Value → Heap → Prop) : Prop :=
  (bif decide ((((s0 : ByteArray).size : Int) : Int) < 1) then
    Q (.bool false) h
  else
    (bif decide ((((s0 : ByteArray).size : Int) : Int) > 32) then
      Q (.bool false) h
    else
      LoopH (fun again0 (s1 : Int) h_0 =>
        (bif decide ((s1 : Int) < ((s0 : ByteArray).size : Int)) then
          0 ≤ (s1 : Int) ∧ (s1 : Int) < ((s0 : ByteArray).size : Int) ∧
          (bif decide (((bt s0 s1) : Int) ≥ 97) then
            (bif decide (((bt s0 s1) : Int) ≤ 122) then
              again0 (IntKind.wrap .i64 (s1 + 1)) h_0
            else
              (bif decide (((bt s0 s1) : Int) ≥ 48) then
                (bif decide (((bt s0 s1) : Int) ≤ 57) then
                  again0 (IntKind.wrap .i64 (s1 + 1)) h_0
                else
                  (bif !(((bt s0 s1) : Int) == 46) then
                    Q (.bool false) h_0
                  else
                    again0 (IntKind.wrap .i64 (s1 + 1)) h_0))
              else
                (bif !(((bt s0 s1) : Int) == 46) then
                  Q (.bool false) h_0
                else
                  again0 (IntKind.wrap .i64 (s1 + 1)) h_0)))
          else
            (bif decide (((bt s0 s1) : Int) ≥ 48) then
              (bif decide (((bt s0 s1) : Int) ≤ 57) then
                again0 (IntKind.wrap .i64 (s1 + 1)) h_0
              else
                (bif !(((bt s0 s1) : Int) == 46) then
                  Q (.bool false) h_0
                else
                  again0 (IntKind.wrap .i64 (s1 + 1)) h_0))
            else
              (bif !(((bt s0 s1) : Int) == 46) then
                Q (.bool false) h_0
              else
                again0 (IntKind.wrap .i64 (s1 + 1)) h_0)))
        else
          Q (.bool true) h_0)) 0 h))
theorem F138_eq : (fun (s0 : ByteArray) (h : Heap) (Q : Value → Heap → Prop) => fnPT Try.prog Try.f138 (fun i => bif Nat.beq i 0 then annOne 3 (codI .i64) else annNil) (fun _ => []) (fun _ => none) [.string s0] h Q) = F138 := by kernel_rfl
theorem F138_ok {s0 : ByteArray} {h : Heap} {Q : Value → Heap → Prop} (H : F138 s0 h Q) : CallsH Try.prog 138 [.string s0] h Q :=
  callsH_of (ann := fun i => bif Nat.beq i 0 then annOne 3 (codI .i64) else annNil) (tys := fun _ => []) (pl := fun _ => none) Try.func138 (by kernel_rfl) (by have e := F138_eq; exact (congrFun (congrFun (congrFun (e) s0) h) Q).symm ▸ H)

/-- (*headgate/headgateref06.FS).at -/
def F139 (f0 : Option Addr) (dir0 : ByteArray) (h : Heap) (Q : Value → Heap → Prop) : Prop :=
  LoopH (fun again0 (s0 : Int) h_0 =>
    NN' f0 fun a0 =>
    Ld h_0 (a0.add 5) fun v0 => DSl v0 fun x0a x0l x0c =>
    (bif decide ((s0 : Int) < (x0l : Int)) then
      NN' f0 fun a1 =>
      Ld h_0 (a1.add 5) fun v1 => DSl v1 fun x1a x1l x1c =>
      IdxA x1a x1l s0 4 fun a2 =>
      Ld h_0 (a2.add 0) fun v2 => DS v2 fun x2 =>
      (bif strEq x2 dir0 then
        Q (.int .i64 s0) h_0
      else
        again0 (IntKind.wrap .i64 (s0 + 1)) h_0)
    else
      Q (.int .i64 (-1)) h_0)) 0 h
theorem F139_eq : (fun (f0 : Option Addr) (dir0 : ByteArray) (h : Heap) (Q : Value → Heap → Prop) => fnPT Try.prog Try.f139 (fun i => bif Nat.beq i 0 then annOne 5 (codI .i64) else annNil) (fun _ => []) (fun _ => none) [.pointer f0, .string dir0] h Q) = F139 := by kernel_rfl
theorem F139_ok {f0 : Option Addr} {dir0 : ByteArray} {h : Heap} {Q : Value → Heap → Prop} (H : F139 f0 dir0 h Q) : CallsH Try.prog 139 [.pointer f0, .string dir0] h Q :=
  callsH_of (ann := fun i => bif Nat.beq i 0 then annOne 5 (codI .i64) else annNil) (tys := fun _ => []) (pl := fun _ => none) Try.func139 (by kernel_rfl) (by have e := F139_eq; exact (congrFun (congrFun (congrFun (congrFun (e) f0) dir0) h) Q).symm ▸ H)

/-- headgate/frame.number -/
def F140 (b0a : Option Addr) (b0l : Nat) (b0c : Nat) (h : Heap) (Q : Value → Heap → Prop) : Prop :=
  IdxA b0a b0l 0 1 fun a0 =>
  Ld h a0 fun v0 => DI .u8 v0 fun x0 =>
  0 ≤ (24 : Int) ∧
  IdxA b0a b0l 1 1 fun a1 =>
  Ld h a1 fun v1 => DI .u8 v1 fun x1 =>
  0 ≤ (16 : Int) ∧
  IdxA b0a b0l 2 1 fun a2 =>
  Ld h a2 fun v2 => DI .u8 v2 fun x2 =>
  0 ≤ (8 : Int) ∧
  IdxA b0a b0l 3 1 fun a3 =>
  Ld h a3 fun v3 => DI .u8 v3 fun x3 =>
  Q (.int .u32 (bitsI .or .u32 (bitsI .or .u32 (bitsI .or .u32 (shlI .u32 (IntKind.wrap .u32 x0) 24) (shlI .u32 (IntKind.wrap .u32 x1) 16)) (shlI .u32 (IntKind.wrap .u32 x2) 8)) (IntKind.wrap .u32 x3))) h
theorem F140_eq : (fun (b0a : Option Addr) (b0l : Nat) (b0c : Nat) (h : Heap) (Q : Value → Heap → Prop) => fnPT Try.prog Try.f140 (fun _ => annNil) (fun _ => []) (fun _ => none) [.slice b0a b0l b0c] h Q) = F140 := by kernel_rfl
theorem F140_ok {b0a : Option Addr} {b0l : Nat} {b0c : Nat} {h : Heap} {Q : Value → Heap → Prop} (H : F140 b0a b0l b0c h Q) : CallsH Try.prog 140 [.slice b0a b0l b0c] h Q :=
  callsH_of (ann := fun _ => annNil) (tys := fun _ => []) (pl := fun _ => none) Try.func140 (by kernel_rfl) (by have e := F140_eq; exact (congrFun (congrFun (congrFun (congrFun (congrFun (e) b0a) b0l) b0c) h) Q).symm ▸ H)

/-- internal/stringslite.HasPrefix -/
def F141 (s0 : ByteArray) (prefix_0 : ByteArray) (h : Heap) (Q : Value → Heap → Prop) : Prop :=
  (bif decide ((((s0 : ByteArray).size : Int) : Int) ≥ ((prefix_0 : ByteArray).size : Int)) then
    SlS s0 0 ((prefix_0 : ByteArray).size : Int) fun s1 =>
    Q (.bool (strEq s1 prefix_0)) h
  else
    Q (.bool false) h)
theorem F141_eq : (fun (s0 : ByteArray) (prefix_0 : ByteArray) (h : Heap) (Q : Value → Heap → Prop) => fnPT Try.prog Try.f141 (fun _ => annNil) (fun _ => []) (fun _ => none) [.string s0, .string prefix_0] h Q) = F141 := by kernel_rfl
theorem F141_ok {s0 : ByteArray} {prefix_0 : ByteArray} {h : Heap} {Q : Value → Heap → Prop} (H : F141 s0 prefix_0 h Q) : CallsH Try.prog 141 [.string s0, .string prefix_0] h Q :=
  callsH_of (ann := fun _ => annNil) (tys := fun _ => []) (pl := fun _ => none) Try.func141 (by kernel_rfl) (by have e := F141_eq; exact (congrFun (congrFun (congrFun (congrFun (e) s0) prefix_0) h) Q).symm ▸ H)

/-- internal/stringslite.CutPrefix -/
def F143 (s0 : ByteArray) (prefix_0 : ByteArray) (h : Heap) (Q : Value → Heap → Prop) : Prop :=
  CallsH Try.prog 141 [.string s0, .string prefix_0] h fun r0 h_0 =>
  DB r0 fun x0 =>
  (bif !x0 then
    Q (.tuple #[.string s0, .bool false]) h_0
  else
    SlS s0 ((prefix_0 : ByteArray).size : Int) ((s0 : ByteArray).size : Int) fun s1 =>
    Q (.tuple #[.string s1, .bool true]) h_0)
theorem F143_eq : (fun (s0 : ByteArray) (prefix_0 : ByteArray) (h : Heap) (Q : Value → Heap → Prop) => fnPT Try.prog Try.f143 (fun _ => annNil) (fun _ => []) (fun _ => none) [.string s0, .string prefix_0] h Q) = F143 := by kernel_rfl
theorem F143_ok {s0 : ByteArray} {prefix_0 : ByteArray} {h : Heap} {Q : Value → Heap → Prop} (H : F143 s0 prefix_0 h Q) : CallsH Try.prog 143 [.string s0, .string prefix_0] h Q :=
  callsH_of (ann := fun _ => annNil) (tys := fun _ => []) (pl := fun _ => none) Try.func143 (by kernel_rfl) (by have e := F143_eq; exact (congrFun (congrFun (congrFun (congrFun (e) s0) prefix_0) h) Q).symm ▸ H)

/-- headgate/frame.All$1 -/
def F144 (yield0 : Value) (c0 : Addr) (h : Heap) (Q : Value → Heap → Prop) : Prop :=
  LoopH (fun again0 (s0 : Int) h_0 =>
    Ld h_0 c0 fun v0 => DSl v0 fun x0a x0l x0c =>
    SlV x0a x0c 1 s0 (x0l : Int) (x0c : Int) fun s1a s1l s1c =>
    CallsH Try.prog 122 [.slice s1a s1l s1c] h_0 fun r0 h_1 =>
    ∃ (x1a : Option Addr), ∃ (x1l : Nat), ∃ (x1c : Nat), ∃ (x2 : Bool), r0 = .tuple #[.slice x1a x1l x1c, .bool x2] ∧
    (bif !x2 then
      Q (.tuple #[]) h_1
    else
      RunH Try.prog (Builtin.append_ #[31, 31] 31 #[.slice none 0 0, .slice x1a x1l x1c]) h_1 fun r1 h_2 =>
      DSl r1 fun x3a x3l x3c =>
      CallV Try.prog yield0 [.int .i64 s0, .slice x3a x3l x3c] h_2 fun r2 h_3 =>
      DB r2 fun x4 =>
      (bif !x4 then
        Q (.tuple #[]) h_3
      else
        again0 (IntKind.wrap .i64 (s0 + (IntKind.wrap .i64 (8 + (x1l : Int))))) h_3))) 0 h
theorem F144_eq : (fun (yield0 : Value) (c0 : Addr) (h : Heap) (Q : Value → Heap → Prop) => fnPT Try.prog Try.f144 (fun i => bif Nat.beq i 0 then annOne 3 (codI .i64) else annNil) (fun _ => []) (fun _ => none) [yield0, .pointer (some c0)] h Q) = F144 := by kernel_rfl
theorem F144_ok {yield0 : Value} {c0 : Addr} {h : Heap} {Q : Value → Heap → Prop} (H : F144 yield0 c0 h Q) : CallsH Try.prog 144 [yield0, .pointer (some c0)] h Q :=
  callsH_of (ann := fun i => bif Nat.beq i 0 then annOne 3 (codI .i64) else annNil) (tys := fun _ => []) (pl := fun _ => none) Try.func144 (by kernel_rfl) (by have e := F144_eq; exact (congrFun (congrFun (congrFun (congrFun (e) yield0) c0) h) Q).symm ▸ H)

/-- slices.insertionSortOrdered[string] -/
def F145 (data0a : Option Addr) (data0l : Nat) (data0c : Nat) (a0 : Int) (b0 : Int) (h : Heap) (Q : Value → Heap → Prop) : Prop :=
  LoopH (fun again0 (s0 : Int) h_0 =>
    (bif decide ((s0 : Int) < b0) then
      LoopH (fun again1 (s1 : Int) h_1 =>
        (bif decide ((s1 : Int) > a0) then
          IdxA data0a data0l s1 1 fun a1 =>
          Ld h_1 a1 fun v0 => DS v0 fun x0 =>
          IdxA data0a data0l (IntKind.wrap .i64 (s1 - 1)) 1 fun a2 =>
          Ld h_1 a2 fun v1 => DS v1 fun x1 =>
          ∃ r1, (CallsH Try.prog 151 [.string x0, .string x1] h_1 fun r0 h_2 =>
          r0 = r1 ∧ h_2 = h_1) ∧
          DB r1 fun x2 =>
          (bif x2 then
            IdxA data0a data0l (IntKind.wrap .i64 (s1 - 1)) 1 fun a3 =>
            Ld h_1 a3 fun v2 => DS v2 fun x3 =>
            IdxA data0a data0l s1 1 fun a4 =>
            Ld h_1 a4 fun v3 => DS v3 fun x4 =>
            IdxA data0a data0l s1 1 fun a5 =>
            StC h_1 (a5.add 0) (.string x3) fun h_4 =>
            (SameV (some (.slice data0a data0l data0c)) (.slice data0a data0l data0c)) ∧
            (SameV (some (.int .i64 s1)) (.int .i64 s1)) ∧
            (SameV (some (.int .i64 (IntKind.wrap .i64 (s1 - 1)))) (.int .i64 (IntKind.wrap .i64 (s1 - 1)))) ∧
            IdxA data0a data0l (IntKind.wrap .i64 (s1 - 1)) 1 fun a6 =>
            StC h_4 (a6.add 0) (.string x4) fun h_6 =>
            again1 (IntKind.wrap .i64 (s1 - 1)) h_6
          else
            again0 (IntKind.wrap .i64 (s0 + 1)) h_1)
        else
          again0 (IntKind.wrap .i64 (s0 + 1)) h_1)) s0 h_0
    else
      Q (.tuple #[]) h_0)) (IntKind.wrap .i64 (a0 + 1)) h
theorem F145_eq : (fun (data0a : Option Addr) (data0l : Nat) (data0c : Nat) (a0 : Int) (b0 : Int) (h : Heap) (Q : Value → Heap → Prop) => fnPT Try.prog Try.f145 (fun i => bif Nat.beq i 0 then annOne 6 (codI .i64) else bif Nat.beq i 2 then annOne 7 (codI .i64) else annNil) (fun _ => []) (fun i => bif Nat.beq i 6 then some ⟨[0, 0, 0, 0, 8, 0, 0, 64, 224, 480, 0, 0, 3072, 7168, 16355, 32739, 65535, 131071], 163840⟩ else none) [.slice data0a data0l data0c, .int .i64 a0, .int .i64 b0] h Q) = F145 := by kernel_rfl
theorem F145_ok {data0a : Option Addr} {data0l : Nat} {data0c : Nat} {a0 : Int} {b0 : Int} {h : Heap} {Q : Value → Heap → Prop} (H : F145 data0a data0l data0c a0 b0 h Q) : CallsH Try.prog 145 [.slice data0a data0l data0c, .int .i64 a0, .int .i64 b0] h Q :=
  callsH_of (ann := fun i => bif Nat.beq i 0 then annOne 6 (codI .i64) else bif Nat.beq i 2 then annOne 7 (codI .i64) else annNil) (tys := fun _ => []) (pl := fun i => bif Nat.beq i 6 then some ⟨[0, 0, 0, 0, 8, 0, 0, 64, 224, 480, 0, 0, 3072, 7168, 16355, 32739, 65535, 131071], 163840⟩ else none) Try.func145 (by kernel_rfl) (by have e := F145_eq; exact (congrFun (congrFun (congrFun (congrFun (congrFun (congrFun (congrFun (e) data0a) data0l) data0c) a0) b0) h) Q).symm ▸ H)

/-- slices.heapSortOrdered[string] -/
def F146 (data0a : Option Addr) (data0l : Nat) (data0c : Nat) (a0 : Int) (b0 : Int) (h : Heap) (Q : Value → Heap → Prop) : Prop :=
  (2 : Int) ≠ 0 ∧
  LoopH (fun again0 (s0 : Int) h_0 =>
    (bif decide ((s0 : Int) ≥ 0) then
      CallsH Try.prog 156 [.slice data0a data0l data0c, .int .i64 s0, .int .i64 (IntKind.wrap .i64 (b0 - a0)), .int .i64 a0] h_0 fun r0 h_1 =>
      r0 = .tuple #[] ∧
      again0 (IntKind.wrap .i64 (s0 - 1)) h_1
    else
      LoopH (fun again1 (s1 : Int) h_2 =>
        (bif decide ((s1 : Int) ≥ 0) then
          IdxA data0a data0l (IntKind.wrap .i64 (a0 + s1)) 1 fun a1 =>
          Ld h_2 a1 fun v0 => DS v0 fun x0 =>
          IdxA data0a data0l a0 1 fun a2 =>
          Ld h_2 a2 fun v1 => DS v1 fun x1 =>
          IdxA data0a data0l a0 1 fun a3 =>
          StC h_2 (a3.add 0) (.string x0) fun h_4 =>
          (SameV (some (.slice data0a data0l data0c)) (.slice data0a data0l data0c)) ∧
          (SameV (some (.int .i64 a0)) (.int .i64 a0)) ∧
          (SameV (some (.int .i64 s1)) (.int .i64 s1)) ∧
          (SameV (some (.int .i64 (IntKind.wrap .i64 (a0 + s1)))) (.int .i64 (IntKind.wrap .i64 (a0 + s1)))) ∧
          IdxA data0a data0l (IntKind.wrap .i64 (a0 + s1)) 1 fun a4 =>
          StC h_4 (a4.add 0) (.string x1) fun h_6 =>
          CallsH Try.prog 156 [.slice data0a data0l data0c, .int .i64 0, .int .i64 s1, .int .i64 a0] h_6 fun r3 h_7 =>
          r3 = .tuple #[] ∧
          again1 (IntKind.wrap .i64 (s1 - 1)) h_7
        else
          Q (.tuple #[]) h_2)) (IntKind.wrap .i64 ((IntKind.wrap .i64 (b0 - a0)) - 1)) h_0)) (IntKind.wrap .i64 (Int.tdiv (IntKind.wrap .i64 ((IntKind.wrap .i64 (b0 - a0)) - 1)) 2)) h
theorem F146_eq : (fun (data0a : Option Addr) (data0l : Nat) (data0c : Nat) (a0 : Int) (b0 : Int) (h : Heap) (Q : Value → Heap → Prop) => fnPT Try.prog Try.f146 (fun i => bif Nat.beq i 0 then annOne 9 (codI .i64) else bif Nat.beq i 2 then annOne 10 (codI .i64) else annNil) (fun _ => []) (fun i => bif Nat.beq i 10 then some ⟨[0, 0, 0, 0, 0, 24, 0, 0, 0, 384, 960, 1984, 0, 0, 12288, 28672, 65475, 131011, 262143, 524287], 655360⟩ else none) [.slice data0a data0l data0c, .int .i64 a0, .int .i64 b0] h Q) = F146 := by kernel_rfl
theorem F146_ok {data0a : Option Addr} {data0l : Nat} {data0c : Nat} {a0 : Int} {b0 : Int} {h : Heap} {Q : Value → Heap → Prop} (H : F146 data0a data0l data0c a0 b0 h Q) : CallsH Try.prog 146 [.slice data0a data0l data0c, .int .i64 a0, .int .i64 b0] h Q :=
  callsH_of (ann := fun i => bif Nat.beq i 0 then annOne 9 (codI .i64) else bif Nat.beq i 2 then annOne 10 (codI .i64) else annNil) (tys := fun _ => []) (pl := fun i => bif Nat.beq i 10 then some ⟨[0, 0, 0, 0, 0, 24, 0, 0, 0, 384, 960, 1984, 0, 0, 12288, 28672, 65475, 131011, 262143, 524287], 655360⟩ else none) Try.func146 (by kernel_rfl) (by have e := F146_eq; exact (congrFun (congrFun (congrFun (congrFun (congrFun (congrFun (congrFun (e) data0a) data0l) data0c) a0) b0) h) Q).symm ▸ H)

/-- slices.breakPatternsOrdered[string] -/
def F147 (data0a : Option Addr) (data0l : Nat) (data0c : Nat) (a0 : Int) (b0 : Int) (h : Heap) (Q : Value → Heap → Prop) : Prop :=
  (bif decide (((IntKind.wrap .i64 (b0 - a0)) : Int) ≥ 8) then
    Al h (.cells #[.int .u64 0] 193) fun b1 h_0 =>
    StC h_0 ((Addr.mk b1 0 none).add 0) (.int .u64 (IntKind.wrap .u64 (IntKind.wrap .i64 (b0 - a0)))) fun h_2 =>
    CallsH Try.prog 157 [.int .i64 (IntKind.wrap .i64 (b0 - a0))] h_2 fun r2 h_3 =>
    DI .u64 r2 fun modulus0 =>
    (4 : Int) ≠ 0 ∧
    LoopH (fun again0 (s0 : Int) h_4 =>
      (4 : Int) ≠ 0 ∧
      (bif decide ((s0 : Int) ≤ (IntKind.wrap .i64 ((IntKind.wrap .i64 (a0 + (IntKind.wrap .i64 ((IntKind.wrap .i64 (Int.tdiv (IntKind.wrap .i64 (b0 - a0)) 4)) * 2)))) + 1))) then
        CallsH Try.prog 158 [.pointer (some (Addr.mk b1 0 none))] h_4 fun r3 h_5 =>
        DI .u64 r3 fun x0 =>
        (bif decide (((IntKind.wrap .i64 (bitsI .and .u64 x0 (IntKind.wrap .u64 (modulus0 - 1)))) : Int) ≥ (IntKind.wrap .i64 (b0 - a0))) then
          IdxA data0a data0l (IntKind.wrap .i64 (a0 + (IntKind.wrap .i64 ((IntKind.wrap .i64 (bitsI .and .u64 x0 (IntKind.wrap .u64 (modulus0 - 1)))) - (IntKind.wrap .i64 (b0 - a0)))))) 1 fun a1 =>
          Ld h_5 a1 fun v0 => DS v0 fun x1 =>
          IdxA data0a data0l s0 1 fun a2 =>
          Ld h_5 a2 fun v1 => DS v1 fun x2 =>
          IdxA data0a data0l s0 1 fun a3 =>
          StC h_5 (a3.add 0) (.string x1) fun h_7 =>
          (SameV (some (.slice data0a data0l data0c)) (.slice data0a data0l data0c)) ∧
          (SameV (some (.int .i64 a0)) (.int .i64 a0)) ∧
          (SameV (some (.int .i64 (IntKind.wrap .i64 ((IntKind.wrap .i64 (bitsI .and .u64 x0 (IntKind.wrap .u64 (modulus0 - 1)))) - (IntKind.wrap .i64 (b0 - a0)))))) (.int .i64 (IntKind.wrap .i64 ((IntKind.wrap .i64 (bitsI .and .u64 x0 (IntKind.wrap .u64 (modulus0 - 1)))) - (IntKind.wrap .i64 (b0 - a0)))))) ∧
          (SameV (some (.int .i64 (IntKind.wrap .i64 (a0 + (IntKind.wrap .i64 ((IntKind.wrap .i64 (bitsI .and .u64 x0 (IntKind.wrap .u64 (modulus0 - 1)))) - (IntKind.wrap .i64 (b0 - a0)))))))) (.int .i64 (IntKind.wrap .i64 (a0 + (IntKind.wrap .i64 ((IntKind.wrap .i64 (bitsI .and .u64 x0 (IntKind.wrap .u64 (modulus0 - 1)))) - (IntKind.wrap .i64 (b0 - a0)))))))) ∧
          IdxA data0a data0l (IntKind.wrap .i64 (a0 + (IntKind.wrap .i64 ((IntKind.wrap .i64 (bitsI .and .u64 x0 (IntKind.wrap .u64 (modulus0 - 1)))) - (IntKind.wrap .i64 (b0 - a0)))))) 1 fun a4 =>
          StC h_7 (a4.add 0) (.string x2) fun h_9 =>
          again0 (IntKind.wrap .i64 (s0 + 1)) h_9
        else
          IdxA data0a data0l (IntKind.wrap .i64 (a0 + (IntKind.wrap .i64 (bitsI .and .u64 x0 (IntKind.wrap .u64 (modulus0 - 1)))))) 1 fun a5 =>
          Ld h_5 a5 fun v2 => DS v2 fun x3 =>
          IdxA data0a data0l s0 1 fun a6 =>
          Ld h_5 a6 fun v3 => DS v3 fun x4 =>
          IdxA data0a data0l s0 1 fun a7 =>
          StC h_5 (a7.add 0) (.string x3) fun h_11 =>
          (SameV (some (.slice data0a data0l data0c)) (.slice data0a data0l data0c)) ∧
          (SameV (some (.int .i64 a0)) (.int .i64 a0)) ∧
          (SameV (some (.int .i64 (IntKind.wrap .i64 (bitsI .and .u64 x0 (IntKind.wrap .u64 (modulus0 - 1)))))) (.int .i64 (IntKind.wrap .i64 (bitsI .and .u64 x0 (IntKind.wrap .u64 (modulus0 - 1)))))) ∧
          (SameV (some (.int .i64 (IntKind.wrap .i64 (a0 + (IntKind.wrap .i64 (bitsI .and .u64 x0 (IntKind.wrap .u64 (modulus0 - 1)))))))) (.int .i64 (IntKind.wrap .i64 (a0 + (IntKind.wrap .i64 (bitsI .and .u64 x0 (IntKind.wrap .u64 (modulus0 - 1)))))))) ∧
          IdxA data0a data0l (IntKind.wrap .i64 (a0 + (IntKind.wrap .i64 (bitsI .and .u64 x0 (IntKind.wrap .u64 (modulus0 - 1)))))) 1 fun a8 =>
          StC h_11 (a8.add 0) (.string x4) fun h_13 =>
          again0 (IntKind.wrap .i64 (s0 + 1)) h_13)
      else
        Q (.tuple #[]) h_4)) (IntKind.wrap .i64 ((IntKind.wrap .i64 (a0 + (IntKind.wrap .i64 ((IntKind.wrap .i64 (Int.tdiv (IntKind.wrap .i64 (b0 - a0)) 4)) * 2)))) - 1)) h_3
  else
    Q (.tuple #[]) h)
theorem F147_eq : (fun (data0a : Option Addr) (data0l : Nat) (data0c : Nat) (a0 : Int) (b0 : Int) (h : Heap) (Q : Value → Heap → Prop) => fnPT Try.prog Try.f147 (fun i => bif Nat.beq i 0 then annOne 9 (codI .i64) else annNil) (fun _ => []) (fun i => bif Nat.beq i 10 then some ⟨[0, 0, 0, 0, 0, 24, 0, 0, 0, 384, 960, 1984, 0, 0, 12288, 28672, 65475, 131011, 262143, 524287], 655360⟩ else none) [.slice data0a data0l data0c, .int .i64 a0, .int .i64 b0] h Q) = F147 := by kernel_rfl
theorem F147_ok {data0a : Option Addr} {data0l : Nat} {data0c : Nat} {a0 : Int} {b0 : Int} {h : Heap} {Q : Value → Heap → Prop} (H : F147 data0a data0l data0c a0 b0 h Q) : CallsH Try.prog 147 [.slice data0a data0l data0c, .int .i64 a0, .int .i64 b0] h Q :=
  callsH_of (ann := fun i => bif Nat.beq i 0 then annOne 9 (codI .i64) else annNil) (tys := fun _ => []) (pl := fun i => bif Nat.beq i 10 then some ⟨[0, 0, 0, 0, 0, 24, 0, 0, 0, 384, 960, 1984, 0, 0, 12288, 28672, 65475, 131011, 262143, 524287], 655360⟩ else none) Try.func147 (by kernel_rfl) (by have e := F147_eq; exact (congrFun (congrFun (congrFun (congrFun (congrFun (congrFun (congrFun (e) data0a) data0l) data0c) a0) b0) h) Q).symm ▸ H)

/-- slices.choosePivotOrdered[string] -/
def F148 (data0a : Option Addr) (data0l : Nat) (data0c : Nat) (a0 : Int) (b0 : Int) (h : Heap) (Q : Value → Heap → Prop) : Prop :=
  Al h (.cells #[.int .i64 0] 3) fun b1 h_0 =>
  (4 : Int) ≠ 0 ∧
  (4 : Int) ≠ 0 ∧
  (4 : Int) ≠ 0 ∧
  (bif decide (((IntKind.wrap .i64 (b0 - a0)) : Int) ≥ 8) then
    (bif decide (((IntKind.wrap .i64 (b0 - a0)) : Int) ≥ 50) then
      CallsH Try.prog 159 [.slice data0a data0l data0c, .int .i64 (IntKind.wrap .i64 (a0 + (IntKind.wrap .i64 ((IntKind.wrap .i64 (Int.tdiv (IntKind.wrap .i64 (b0 - a0)) 4)) * 1)))), .pointer (some (Addr.mk b1 0 none))] h_0 fun r1 h_1 =>
      DI .i64 r1 fun i0 =>
      CallsH Try.prog 159 [.slice data0a data0l data0c, .int .i64 (IntKind.wrap .i64 (a0 + (IntKind.wrap .i64 ((IntKind.wrap .i64 (Int.tdiv (IntKind.wrap .i64 (b0 - a0)) 4)) * 2)))), .pointer (some (Addr.mk b1 0 none))] h_1 fun r2 h_2 =>
      DI .i64 r2 fun j0 =>
      CallsH Try.prog 159 [.slice data0a data0l data0c, .int .i64 (IntKind.wrap .i64 (a0 + (IntKind.wrap .i64 ((IntKind.wrap .i64 (Int.tdiv (IntKind.wrap .i64 (b0 - a0)) 4)) * 3)))), .pointer (some (Addr.mk b1 0 none))] h_2 fun r3 h_3 =>
      DI .i64 r3 fun k0 =>
      CallsH Try.prog 160 [.slice data0a data0l data0c, .int .i64 i0, .int .i64 j0, .int .i64 k0, .pointer (some (Addr.mk b1 0 none))] h_3 fun r4 h_4 =>
      DI .i64 r4 fun j1 =>
      Ld h_4 (Addr.mk b1 0 none) fun v0 => DI .i64 v0 fun x0 =>
      (bif (x0 : Int) == 0 then
        Q (.tuple #[.int .i64 j1, .int .i64 1]) h_4
      else
        (bif (x0 : Int) == 12 then
          Q (.tuple #[.int .i64 j1, .int .i64 2]) h_4
        else
          Q (.tuple #[.int .i64 j1, .int .i64 0]) h_4))
    else
      CallsH Try.prog 160 [.slice data0a data0l data0c, .int .i64 (IntKind.wrap .i64 (a0 + (IntKind.wrap .i64 ((IntKind.wrap .i64 (Int.tdiv (IntKind.wrap .i64 (b0 - a0)) 4)) * 1)))), .int .i64 (IntKind.wrap .i64 (a0 + (IntKind.wrap .i64 ((IntKind.wrap .i64 (Int.tdiv (IntKind.wrap .i64 (b0 - a0)) 4)) * 2)))), .int .i64 (IntKind.wrap .i64 (a0 + (IntKind.wrap .i64 ((IntKind.wrap .i64 (Int.tdiv (IntKind.wrap .i64 (b0 - a0)) 4)) * 3)))), .pointer (some (Addr.mk b1 0 none))] h_0 fun r5 h_5 =>
      DI .i64 r5 fun j2 =>
      Ld h_5 (Addr.mk b1 0 none) fun v1 => DI .i64 v1 fun x1 =>
      (bif (x1 : Int) == 0 then
        Q (.tuple #[.int .i64 j2, .int .i64 1]) h_5
      else
        (bif (x1 : Int) == 12 then
          Q (.tuple #[.int .i64 j2, .int .i64 2]) h_5
        else
          Q (.tuple #[.int .i64 j2, .int .i64 0]) h_5)))
  else
    Ld h_0 (Addr.mk b1 0 none) fun v2 => DI .i64 v2 fun x2 =>
    (bif (x2 : Int) == 0 then
      Q (.tuple #[.int .i64 (IntKind.wrap .i64 (a0 + (IntKind.wrap .i64 ((IntKind.wrap .i64 (Int.tdiv (IntKind.wrap .i64 (b0 - a0)) 4)) * 2)))), .int .i64 1]) h_0
    else
      (bif (x2 : Int) == 12 then
        Q (.tuple #[.int .i64 (IntKind.wrap .i64 (a0 + (IntKind.wrap .i64 ((IntKind.wrap .i64 (Int.tdiv (IntKind.wrap .i64 (b0 - a0)) 4)) * 2)))), .int .i64 2]) h_0
      else
        Q (.tuple #[.int .i64 (IntKind.wrap .i64 (a0 + (IntKind.wrap .i64 ((IntKind.wrap .i64 (Int.tdiv (IntKind.wrap .i64 (b0 - a0)) 4)) * 2)))), .int .i64 0]) h_0)))
theorem F148_eq : (fun (data0a : Option Addr) (data0l : Nat) (data0c : Nat) (a0 : Int) (b0 : Int) (h : Heap) (Q : Value → Heap → Prop) => fnPT Try.prog Try.f148 (fun _ => annNil) (fun _ => []) (fun _ => none) [.slice data0a data0l data0c, .int .i64 a0, .int .i64 b0] h Q) = F148 := by kernel_rfl
theorem F148_ok {data0a : Option Addr} {data0l : Nat} {data0c : Nat} {a0 : Int} {b0 : Int} {h : Heap} {Q : Value → Heap → Prop} (H : F148 data0a data0l data0c a0 b0 h Q) : CallsH Try.prog 148 [.slice data0a data0l data0c, .int .i64 a0, .int .i64 b0] h Q :=
  callsH_of (ann := fun _ => annNil) (tys := fun _ => []) (pl := fun _ => none) Try.func148 (by kernel_rfl) (by have e := F148_eq; exact (congrFun (congrFun (congrFun (congrFun (congrFun (congrFun (congrFun (e) data0a) data0l) data0c) a0) b0) h) Q).symm ▸ H)

/-- slices.reverseRangeOrdered[string] -/
def F149 (data0a : Option Addr) (data0l : Nat) (data0c : Nat) (a0 : Int) (b0 : Int) (h : Heap) (Q : Value → Heap → Prop) : Prop :=
  LoopH (fun again0 (s0 : Int × Int) h_0 =>
    (bif decide ((s0.1 : Int) < s0.2) then
      IdxA data0a data0l s0.2 1 fun a1 =>
      Ld h_0 a1 fun v0 => DS v0 fun x0 =>
      IdxA data0a data0l s0.1 1 fun a2 =>
      Ld h_0 a2 fun v1 => DS v1 fun x1 =>
      IdxA data0a data0l s0.1 1 fun a3 =>
      StC h_0 (a3.add 0) (.string x0) fun h_2 =>
      (SameV (some (.slice data0a data0l data0c)) (.slice data0a data0l data0c)) ∧
      (SameV (some (.int .i64 s0.2)) (.int .i64 s0.2)) ∧
      IdxA data0a data0l s0.2 1 fun a4 =>
      StC h_2 (a4.add 0) (.string x1) fun h_4 =>
      again0 (IntKind.wrap .i64 (s0.1 + 1), IntKind.wrap .i64 (s0.2 - 1)) h_4
    else
      Q (.tuple #[]) h_0)) (a0, IntKind.wrap .i64 (b0 - 1)) h
theorem F149_eq : (fun (data0a : Option Addr) (data0l : Nat) (data0c : Nat) (a0 : Int) (b0 : Int) (h : Heap) (Q : Value → Heap → Prop) => fnPT Try.prog Try.f149 (fun i => bif Nat.beq i 0 then annCons 6 (codI .i64) (annOne 7 (codI .i64)) else annNil) (fun _ => []) (fun i => bif Nat.beq i 3 then some ⟨[0, 0, 0, 0, 0, 0, 48, 112, 0, 0, 768, 1792, 4083, 8179, 16383, 32767], 40960⟩ else none) [.slice data0a data0l data0c, .int .i64 a0, .int .i64 b0] h Q) = F149 := by kernel_rfl
theorem F149_ok {data0a : Option Addr} {data0l : Nat} {data0c : Nat} {a0 : Int} {b0 : Int} {h : Heap} {Q : Value → Heap → Prop} (H : F149 data0a data0l data0c a0 b0 h Q) : CallsH Try.prog 149 [.slice data0a data0l data0c, .int .i64 a0, .int .i64 b0] h Q :=
  callsH_of (ann := fun i => bif Nat.beq i 0 then annCons 6 (codI .i64) (annOne 7 (codI .i64)) else annNil) (tys := fun _ => []) (pl := fun i => bif Nat.beq i 3 then some ⟨[0, 0, 0, 0, 0, 0, 48, 112, 0, 0, 768, 1792, 4083, 8179, 16383, 32767], 40960⟩ else none) Try.func149 (by kernel_rfl) (by have e := F149_eq; exact (congrFun (congrFun (congrFun (congrFun (congrFun (congrFun (congrFun (e) data0a) data0l) data0c) a0) b0) h) Q).symm ▸ H)

/-- slices.partialInsertionSortOrdered[string] -/
def F150 (data0a : Option Addr) (data0l : Nat) (data0c : Nat) (a0 : Int) (b0 : Int) (h : Heap) (Q : Value → Heap → Prop) : Prop :=
  LoopH (fun again0 (s0 : Int × Int) h_0 =>
    (bif decide ((s0.2 : Int) < 5) then
      LoopH (fun again1 (s1 : Int) h_1 =>
        (bif decide ((s1 : Int) < b0) then
          IdxA data0a data0l s1 1 fun a1 =>
          Ld h_1 a1 fun v0 => DS v0 fun x0 =>
          IdxA data0a data0l (IntKind.wrap .i64 (s1 - 1)) 1 fun a2 =>
          Ld h_1 a2 fun v1 => DS v1 fun x1 =>
          ∃ r1, (CallsH Try.prog 151 [.string x0, .string x1] h_1 fun r0 h_2 =>
          r0 = r1 ∧ h_2 = h_1) ∧
          DB r1 fun x2 =>
          (bif !x2 then
            again1 (IntKind.wrap .i64 (s1 + 1)) h_1
          else
            (bif (s1 : Int) == b0 then
              Q (.bool true) h_1
            else
              (bif decide (((IntKind.wrap .i64 (b0 - a0)) : Int) < 50) then
                Q (.bool false) h_1
              else
                IdxA data0a data0l (IntKind.wrap .i64 (s1 - 1)) 1 fun a3 =>
                Ld h_1 a3 fun v2 => DS v2 fun x3 =>
                IdxA data0a data0l s1 1 fun a4 =>
                Ld h_1 a4 fun v3 => DS v3 fun x4 =>
                IdxA data0a data0l s1 1 fun a5 =>
                StC h_1 (a5.add 0) (.string x3) fun h_4 =>
                (SameV (some (.slice data0a data0l data0c)) (.slice data0a data0l data0c)) ∧
                (SameV (some (.int .i64 s1)) (.int .i64 s1)) ∧
                (SameV (some (.int .i64 (IntKind.wrap .i64 (s1 - 1)))) (.int .i64 (IntKind.wrap .i64 (s1 - 1)))) ∧
                IdxA data0a data0l (IntKind.wrap .i64 (s1 - 1)) 1 fun a6 =>
                StC h_4 (a6.add 0) (.string x4) fun h_6 =>
                (bif decide (((IntKind.wrap .i64 (s1 - a0)) : Int) ≥ 2) then
                  LoopH (fun again2 (s2 : Int) h_7 =>
                    (bif decide ((s2 : Int) ≥ 1) then
                      IdxA data0a data0l s2 1 fun a7 =>
                      Ld h_7 a7 fun v4 => DS v4 fun x5 =>
                      IdxA data0a data0l (IntKind.wrap .i64 (s2 - 1)) 1 fun a8 =>
                      Ld h_7 a8 fun v5 => DS v5 fun x6 =>
                      ∃ r5, (CallsH Try.prog 151 [.string x5, .string x6] h_7 fun r4 h_8 =>
                      r4 = r5 ∧ h_8 = h_7) ∧
                      DB r5 fun x7 =>
                      (bif !x7 then
                        (bif decide (((IntKind.wrap .i64 (b0 - s1)) : Int) ≥ 2) then
                          LoopH (fun again3 (s3 : Int) h_9 =>
                            (bif decide ((s3 : Int) < b0) then
                              IdxA data0a data0l s3 1 fun a9 =>
                              Ld h_9 a9 fun v6 => DS v6 fun x8 =>
                              IdxA data0a data0l (IntKind.wrap .i64 (s3 - 1)) 1 fun a10 =>
                              Ld h_9 a10 fun v7 => DS v7 fun x9 =>
                              ∃ r7, (CallsH Try.prog 151 [.string x8, .string x9] h_9 fun r6 h_10 =>
                              r6 = r7 ∧ h_10 = h_9) ∧
                              DB r7 fun x10 =>
                              (bif !x10 then
                                again0 (s1, IntKind.wrap .i64 (s0.2 + 1)) h_9
                              else
                                IdxA data0a data0l (IntKind.wrap .i64 (s3 - 1)) 1 fun a11 =>
                                Ld h_9 a11 fun v8 => DS v8 fun x11 =>
                                IdxA data0a data0l s3 1 fun a12 =>
                                Ld h_9 a12 fun v9 => DS v9 fun x12 =>
                                IdxA data0a data0l s3 1 fun a13 =>
                                StC h_9 (a13.add 0) (.string x11) fun h_12 =>
                                (SameV (some (.slice data0a data0l data0c)) (.slice data0a data0l data0c)) ∧
                                (SameV (some (.int .i64 s3)) (.int .i64 s3)) ∧
                                (SameV (some (.int .i64 (IntKind.wrap .i64 (s3 - 1)))) (.int .i64 (IntKind.wrap .i64 (s3 - 1)))) ∧
                                IdxA data0a data0l (IntKind.wrap .i64 (s3 - 1)) 1 fun a14 =>
                                StC h_12 (a14.add 0) (.string x12) fun h_14 =>
                                again3 (IntKind.wrap .i64 (s3 + 1)) h_14)
                            else
                              again0 (s1, IntKind.wrap .i64 (s0.2 + 1)) h_9)) (IntKind.wrap .i64 (s1 + 1)) h_7
                        else
                          again0 (s1, IntKind.wrap .i64 (s0.2 + 1)) h_7)
                      else
                        IdxA data0a data0l (IntKind.wrap .i64 (s2 - 1)) 1 fun a15 =>
                        Ld h_7 a15 fun v10 => DS v10 fun x13 =>
                        IdxA data0a data0l s2 1 fun a16 =>
                        Ld h_7 a16 fun v11 => DS v11 fun x14 =>
                        IdxA data0a data0l s2 1 fun a17 =>
                        StC h_7 (a17.add 0) (.string x13) fun h_16 =>
                        (SameV (some (.slice data0a data0l data0c)) (.slice data0a data0l data0c)) ∧
                        (SameV (some (.int .i64 s2)) (.int .i64 s2)) ∧
                        (SameV (some (.int .i64 (IntKind.wrap .i64 (s2 - 1)))) (.int .i64 (IntKind.wrap .i64 (s2 - 1)))) ∧
                        IdxA data0a data0l (IntKind.wrap .i64 (s2 - 1)) 1 fun a18 =>
                        StC h_16 (a18.add 0) (.string x14) fun h_18 =>
                        again2 (IntKind.wrap .i64 (s2 - 1)) h_18)
                    else
                      (bif decide (((IntKind.wrap .i64 (b0 - s1)) : Int) ≥ 2) then
                        LoopH (fun again4 (s4 : Int) h_19 =>
                          (bif decide ((s4 : Int) < b0) then
                            IdxA data0a data0l s4 1 fun a19 =>
                            Ld h_19 a19 fun v12 => DS v12 fun x15 =>
                            IdxA data0a data0l (IntKind.wrap .i64 (s4 - 1)) 1 fun a20 =>
                            Ld h_19 a20 fun v13 => DS v13 fun x16 =>
                            ∃ r13, (CallsH Try.prog 151 [.string x15, .string x16] h_19 fun r12 h_20 =>
                            r12 = r13 ∧ h_20 = h_19) ∧
                            DB r13 fun x17 =>
                            (bif !x17 then
                              again0 (s1, IntKind.wrap .i64 (s0.2 + 1)) h_19
                            else
                              IdxA data0a data0l (IntKind.wrap .i64 (s4 - 1)) 1 fun a21 =>
                              Ld h_19 a21 fun v14 => DS v14 fun x18 =>
                              IdxA data0a data0l s4 1 fun a22 =>
                              Ld h_19 a22 fun v15 => DS v15 fun x19 =>
                              IdxA data0a data0l s4 1 fun a23 =>
                              StC h_19 (a23.add 0) (.string x18) fun h_22 =>
                              (SameV (some (.slice data0a data0l data0c)) (.slice data0a data0l data0c)) ∧
                              (SameV (some (.int .i64 s4)) (.int .i64 s4)) ∧
                              (SameV (some (.int .i64 (IntKind.wrap .i64 (s4 - 1)))) (.int .i64 (IntKind.wrap .i64 (s4 - 1)))) ∧
                              IdxA data0a data0l (IntKind.wrap .i64 (s4 - 1)) 1 fun a24 =>
                              StC h_22 (a24.add 0) (.string x19) fun h_24 =>
                              again4 (IntKind.wrap .i64 (s4 + 1)) h_24)
                          else
                            again0 (s1, IntKind.wrap .i64 (s0.2 + 1)) h_19)) (IntKind.wrap .i64 (s1 + 1)) h_7
                      else
                        again0 (s1, IntKind.wrap .i64 (s0.2 + 1)) h_7))) (IntKind.wrap .i64 (s1 - 1)) h_6
                else
                  (bif decide (((IntKind.wrap .i64 (b0 - s1)) : Int) ≥ 2) then
                    LoopH (fun again5 (s5 : Int) h_25 =>
                      (bif decide ((s5 : Int) < b0) then
                        IdxA data0a data0l s5 1 fun a25 =>
                        Ld h_25 a25 fun v16 => DS v16 fun x20 =>
                        IdxA data0a data0l (IntKind.wrap .i64 (s5 - 1)) 1 fun a26 =>
                        Ld h_25 a26 fun v17 => DS v17 fun x21 =>
                        ∃ r17, (CallsH Try.prog 151 [.string x20, .string x21] h_25 fun r16 h_26 =>
                        r16 = r17 ∧ h_26 = h_25) ∧
                        DB r17 fun x22 =>
                        (bif !x22 then
                          again0 (s1, IntKind.wrap .i64 (s0.2 + 1)) h_25
                        else
                          IdxA data0a data0l (IntKind.wrap .i64 (s5 - 1)) 1 fun a27 =>
                          Ld h_25 a27 fun v18 => DS v18 fun x23 =>
                          IdxA data0a data0l s5 1 fun a28 =>
                          Ld h_25 a28 fun v19 => DS v19 fun x24 =>
                          IdxA data0a data0l s5 1 fun a29 =>
                          StC h_25 (a29.add 0) (.string x23) fun h_28 =>
                          (SameV (some (.slice data0a data0l data0c)) (.slice data0a data0l data0c)) ∧
                          (SameV (some (.int .i64 s5)) (.int .i64 s5)) ∧
                          (SameV (some (.int .i64 (IntKind.wrap .i64 (s5 - 1)))) (.int .i64 (IntKind.wrap .i64 (s5 - 1)))) ∧
                          IdxA data0a data0l (IntKind.wrap .i64 (s5 - 1)) 1 fun a30 =>
                          StC h_28 (a30.add 0) (.string x24) fun h_30 =>
                          again5 (IntKind.wrap .i64 (s5 + 1)) h_30)
                      else
                        again0 (s1, IntKind.wrap .i64 (s0.2 + 1)) h_25)) (IntKind.wrap .i64 (s1 + 1)) h_6
                  else
                    again0 (s1, IntKind.wrap .i64 (s0.2 + 1)) h_6)))))
        else
          (bif (s1 : Int) == b0 then
            Q (.bool true) h_1
          else
            (bif decide (((IntKind.wrap .i64 (b0 - a0)) : Int) < 50) then
              Q (.bool false) h_1
            else
              IdxA data0a data0l (IntKind.wrap .i64 (s1 - 1)) 1 fun a31 =>
              Ld h_1 a31 fun v20 => DS v20 fun x25 =>
              IdxA data0a data0l s1 1 fun a32 =>
              Ld h_1 a32 fun v21 => DS v21 fun x26 =>
              IdxA data0a data0l s1 1 fun a33 =>
              StC h_1 (a33.add 0) (.string x25) fun h_32 =>
              (SameV (some (.slice data0a data0l data0c)) (.slice data0a data0l data0c)) ∧
              (SameV (some (.int .i64 s1)) (.int .i64 s1)) ∧
              (SameV (some (.int .i64 (IntKind.wrap .i64 (s1 - 1)))) (.int .i64 (IntKind.wrap .i64 (s1 - 1)))) ∧
              IdxA data0a data0l (IntKind.wrap .i64 (s1 - 1)) 1 fun a34 =>
              StC h_32 (a34.add 0) (.string x26) fun h_34 =>
              (bif decide (((IntKind.wrap .i64 (s1 - a0)) : Int) ≥ 2) then
                LoopH (fun again6 (s6 : Int) h_35 =>
                  (bif decide ((s6 : Int) ≥ 1) then
                    IdxA data0a data0l s6 1 fun a35 =>
                    Ld h_35 a35 fun v22 => DS v22 fun x27 =>
                    IdxA data0a data0l (IntKind.wrap .i64 (s6 - 1)) 1 fun a36 =>
                    Ld h_35 a36 fun v23 => DS v23 fun x28 =>
                    ∃ r23, (CallsH Try.prog 151 [.string x27, .string x28] h_35 fun r22 h_36 =>
                    r22 = r23 ∧ h_36 = h_35) ∧
                    DB r23 fun x29 =>
                    (bif !x29 then
                      (bif decide (((IntKind.wrap .i64 (b0 - s1)) : Int) ≥ 2) then
                        LoopH (fun again7 (s7 : Int) h_37 =>
                          (bif decide ((s7 : Int) < b0) then
                            IdxA data0a data0l s7 1 fun a37 =>
                            Ld h_37 a37 fun v24 => DS v24 fun x30 =>
                            IdxA data0a data0l (IntKind.wrap .i64 (s7 - 1)) 1 fun a38 =>
                            Ld h_37 a38 fun v25 => DS v25 fun x31 =>
                            ∃ r25, (CallsH Try.prog 151 [.string x30, .string x31] h_37 fun r24 h_38 =>
                            r24 = r25 ∧ h_38 = h_37) ∧
                            DB r25 fun x32 =>
                            (bif !x32 then
                              again0 (s1, IntKind.wrap .i64 (s0.2 + 1)) h_37
                            else
                              IdxA data0a data0l (IntKind.wrap .i64 (s7 - 1)) 1 fun a39 =>
                              Ld h_37 a39 fun v26 => DS v26 fun x33 =>
                              IdxA data0a data0l s7 1 fun a40 =>
                              Ld h_37 a40 fun v27 => DS v27 fun x34 =>
                              IdxA data0a data0l s7 1 fun a41 =>
                              StC h_37 (a41.add 0) (.string x33) fun h_40 =>
                              (SameV (some (.slice data0a data0l data0c)) (.slice data0a data0l data0c)) ∧
                              (SameV (some (.int .i64 s7)) (.int .i64 s7)) ∧
                              (SameV (some (.int .i64 (IntKind.wrap .i64 (s7 - 1)))) (.int .i64 (IntKind.wrap .i64 (s7 - 1)))) ∧
                              IdxA data0a data0l (IntKind.wrap .i64 (s7 - 1)) 1 fun a42 =>
                              StC h_40 (a42.add 0) (.string x34) fun h_42 =>
                              again7 (IntKind.wrap .i64 (s7 + 1)) h_42)
                          else
                            again0 (s1, IntKind.wrap .i64 (s0.2 + 1)) h_37)) (IntKind.wrap .i64 (s1 + 1)) h_35
                      else
                        again0 (s1, IntKind.wrap .i64 (s0.2 + 1)) h_35)
                    else
                      IdxA data0a data0l (IntKind.wrap .i64 (s6 - 1)) 1 fun a43 =>
                      Ld h_35 a43 fun v28 => DS v28 fun x35 =>
                      IdxA data0a data0l s6 1 fun a44 =>
                      Ld h_35 a44 fun v29 => DS v29 fun x36 =>
                      IdxA data0a data0l s6 1 fun a45 =>
                      StC h_35 (a45.add 0) (.string x35) fun h_44 =>
                      (SameV (some (.slice data0a data0l data0c)) (.slice data0a data0l data0c)) ∧
                      (SameV (some (.int .i64 s6)) (.int .i64 s6)) ∧
                      (SameV (some (.int .i64 (IntKind.wrap .i64 (s6 - 1)))) (.int .i64 (IntKind.wrap .i64 (s6 - 1)))) ∧
                      IdxA data0a data0l (IntKind.wrap .i64 (s6 - 1)) 1 fun a46 =>
                      StC h_44 (a46.add 0) (.string x36) fun h_46 =>
                      again6 (IntKind.wrap .i64 (s6 - 1)) h_46)
                  else
                    (bif decide (((IntKind.wrap .i64 (b0 - s1)) : Int) ≥ 2) then
                      LoopH (fun again8 (s8 : Int) h_47 =>
                        (bif decide ((s8 : Int) < b0) then
                          IdxA data0a data0l s8 1 fun a47 =>
                          Ld h_47 a47 fun v30 => DS v30 fun x37 =>
                          IdxA data0a data0l (IntKind.wrap .i64 (s8 - 1)) 1 fun a48 =>
                          Ld h_47 a48 fun v31 => DS v31 fun x38 =>
                          ∃ r31, (CallsH Try.prog 151 [.string x37, .string x38] h_47 fun r30 h_48 =>
                          r30 = r31 ∧ h_48 = h_47) ∧
                          DB r31 fun x39 =>
                          (bif !x39 then
                            again0 (s1, IntKind.wrap .i64 (s0.2 + 1)) h_47
                          else
                            IdxA data0a data0l (IntKind.wrap .i64 (s8 - 1)) 1 fun a49 =>
                            Ld h_47 a49 fun v32 => DS v32 fun x40 =>
                            IdxA data0a data0l s8 1 fun a50 =>
                            Ld h_47 a50 fun v33 => DS v33 fun x41 =>
                            IdxA data0a data0l s8 1 fun a51 =>
                            StC h_47 (a51.add 0) (.string x40) fun h_50 =>
                            (SameV (some (.slice data0a data0l data0c)) (.slice data0a data0l data0c)) ∧
                            (SameV (some (.int .i64 s8)) (.int .i64 s8)) ∧
                            (SameV (some (.int .i64 (IntKind.wrap .i64 (s8 - 1)))) (.int .i64 (IntKind.wrap .i64 (s8 - 1)))) ∧
                            IdxA data0a data0l (IntKind.wrap .i64 (s8 - 1)) 1 fun a52 =>
                            StC h_50 (a52.add 0) (.string x41) fun h_52 =>
                            again8 (IntKind.wrap .i64 (s8 + 1)) h_52)
                        else
                          again0 (s1, IntKind.wrap .i64 (s0.2 + 1)) h_47)) (IntKind.wrap .i64 (s1 + 1)) h_35
                    else
                      again0 (s1, IntKind.wrap .i64 (s0.2 + 1)) h_35))) (IntKind.wrap .i64 (s1 - 1)) h_34
              else
                (bif decide (((IntKind.wrap .i64 (b0 - s1)) : Int) ≥ 2) then
                  LoopH (fun again9 (s9 : Int) h_53 =>
                    (bif decide ((s9 : Int) < b0) then
                      IdxA data0a data0l s9 1 fun a53 =>
                      Ld h_53 a53 fun v34 => DS v34 fun x42 =>
                      IdxA data0a data0l (IntKind.wrap .i64 (s9 - 1)) 1 fun a54 =>
                      Ld h_53 a54 fun v35 => DS v35 fun x43 =>
                      ∃ r35, (CallsH Try.prog 151 [.string x42, .string x43] h_53 fun r34 h_54 =>
                      r34 = r35 ∧ h_54 = h_53) ∧
                      DB r35 fun x44 =>
                      (bif !x44 then
                        again0 (s1, IntKind.wrap .i64 (s0.2 + 1)) h_53
                      else
                        IdxA data0a data0l (IntKind.wrap .i64 (s9 - 1)) 1 fun a55 =>
                        Ld h_53 a55 fun v36 => DS v36 fun x45 =>
                        IdxA data0a data0l s9 1 fun a56 =>
                        Ld h_53 a56 fun v37 => DS v37 fun x46 =>
                        IdxA data0a data0l s9 1 fun a57 =>
                        StC h_53 (a57.add 0) (.string x45) fun h_56 =>
                        (SameV (some (.slice data0a data0l data0c)) (.slice data0a data0l data0c)) ∧
                        (SameV (some (.int .i64 s9)) (.int .i64 s9)) ∧
                        (SameV (some (.int .i64 (IntKind.wrap .i64 (s9 - 1)))) (.int .i64 (IntKind.wrap .i64 (s9 - 1)))) ∧
                        IdxA data0a data0l (IntKind.wrap .i64 (s9 - 1)) 1 fun a58 =>
                        StC h_56 (a58.add 0) (.string x46) fun h_58 =>
                        again9 (IntKind.wrap .i64 (s9 + 1)) h_58)
                    else
                      again0 (s1, IntKind.wrap .i64 (s0.2 + 1)) h_53)) (IntKind.wrap .i64 (s1 + 1)) h_34
                else
                  again0 (s1, IntKind.wrap .i64 (s0.2 + 1)) h_34)))))) s0.1 h_0
    else
      Q (.bool false) h_0)) (IntKind.wrap .i64 (a0 + 1), 0) h
theorem F150_eq : (fun (data0a : Option Addr) (data0l : Nat) (data0c : Nat) (a0 : Int) (b0 : Int) (h : Heap) (Q : Value → Heap → Prop) => fnPT Try.prog Try.f150 (fun i => bif Nat.beq i 0 then annCons 7 (codI .i64) (annOne 8 (codI .i64)) else bif Nat.beq i 2 then annOne 7 (codI .i64) else bif Nat.beq i 4 then annOne 9 (codI .i64) else bif Nat.beq i 6 then annOne 10 (codI .i64) else annNil) (fun _ => []) (fun i => bif Nat.beq i 11 then some ⟨[0, 0, 0, 0, 8, 0, 0, 64, 224, 480, 0, 0, 3072, 7168, 16355, 32739, 65535, 131071], 163840⟩ else bif Nat.beq i 23 then some ⟨[0, 0, 0, 0, 8, 0, 0, 64, 224, 480, 0, 0, 3072, 7168, 16355, 32739, 65535, 131071], 163840⟩ else bif Nat.beq i 17 then some ⟨[0, 0, 0, 0, 8, 0, 0, 64, 224, 480, 0, 0, 3072, 7168, 16355, 32739, 65535, 131071], 163840⟩ else none) [.slice data0a data0l data0c, .int .i64 a0, .int .i64 b0] h Q) = F150 := by kernel_rfl
theorem F150_ok {data0a : Option Addr} {data0l : Nat} {data0c : Nat} {a0 : Int} {b0 : Int} {h : Heap} {Q : Value → Heap → Prop} (H : F150 data0a data0l data0c a0 b0 h Q) : CallsH Try.prog 150 [.slice data0a data0l data0c, .int .i64 a0, .int .i64 b0] h Q :=
  callsH_of (ann := fun i => bif Nat.beq i 0 then annCons 7 (codI .i64) (annOne 8 (codI .i64)) else bif Nat.beq i 2 then annOne 7 (codI .i64) else bif Nat.beq i 4 then annOne 9 (codI .i64) else bif Nat.beq i 6 then annOne 10 (codI .i64) else annNil) (tys := fun _ => []) (pl := fun i => bif Nat.beq i 11 then some ⟨[0, 0, 0, 0, 8, 0, 0, 64, 224, 480, 0, 0, 3072, 7168, 16355, 32739, 65535, 131071], 163840⟩ else bif Nat.beq i 23 then some ⟨[0, 0, 0, 0, 8, 0, 0, 64, 224, 480, 0, 0, 3072, 7168, 16355, 32739, 65535, 131071], 163840⟩ else bif Nat.beq i 17 then some ⟨[0, 0, 0, 0, 8, 0, 0, 64, 224, 480, 0, 0, 3072, 7168, 16355, 32739, 65535, 131071], 163840⟩ else none) Try.func150 (by kernel_rfl) (by have e := F150_eq; exact (congrFun (congrFun (congrFun (congrFun (congrFun (congrFun (congrFun (e) data0a) data0l) data0c) a0) b0) h) Q).symm ▸ H)

/-- cmp.Less[string] -/
def F151 (x0 : ByteArray) (y0 : ByteArray) (h : Heap) (Q : Value → Heap → Prop) : Prop :=
  CallsH Try.prog 161 [.string x0] h fun r0 h_0 =>
  DB r0 fun x1 =>
  (bif x1 then
    CallsH Try.prog 161 [.string y0] h_0 fun r1 h_1 =>
    DB r1 fun x2 =>
    (bif !x2 then
      Q (.bool true) h_1
    else
      Q (.bool (strLt x0 y0)) h_1)
  else
    Q (.bool (strLt x0 y0)) h_0)
theorem F151_eq : (fun (x0 : ByteArray) (y0 : ByteArray) (h : Heap) (Q : Value → Heap → Prop) => fnPT Try.prog Try.f151 (fun _ => annNil) (fun _ => []) (fun _ => none) [.string x0, .string y0] h Q) = F151 := by kernel_rfl
theorem F151_ok {x0 : ByteArray} {y0 : ByteArray} {h : Heap} {Q : Value → Heap → Prop} (H : F151 x0 y0 h Q) : CallsH Try.prog 151 [.string x0, .string y0] h Q :=
  callsH_of (ann := fun _ => annNil) (tys := fun _ => []) (pl := fun _ => none) Try.func151 (by kernel_rfl) (by have e := F151_eq; exact (congrFun (congrFun (congrFun (congrFun (e) x0) y0) h) Q).symm ▸ H)

/-- slices.partitionEqualOrdered[string] -/
def F152 (data0a : Option Addr) (data0l : Nat) (data0c : Nat) (a0 : Int) (b0 : Int) (pivot0 : Int) (h : Heap) (Q : Value → Heap → Prop) : Prop :=
  IdxA data0a data0l pivot0 1 fun a1 =>
  Ld h a1 fun v0 => DS v0 fun x0 =>
  IdxA data0a data0l a0 1 fun a2 =>
  Ld h a2 fun v1 => DS v1 fun x1 =>
  IdxA data0a data0l a0 1 fun a3 =>
  StC h (a3.add 0) (.string x0) fun h_1 =>
  (SameV (some (.slice data0a data0l data0c)) (.slice data0a data0l data0c)) ∧
  (SameV (some (.int .i64 pivot0)) (.int .i64 pivot0)) ∧
  IdxA data0a data0l pivot0 1 fun a4 =>
  StC h_1 (a4.add 0) (.string x1) fun h_3 =>
  LoopH (fun again0 (s0 : Int × Int) h_4 =>
    LoopH (fun again1 (s1 : Int) h_5 =>
      (bif decide ((s1 : Int) ≤ s0.2) then
        IdxA data0a data0l a0 1 fun a5 =>
        Ld h_5 a5 fun v2 => DS v2 fun x2 =>
        IdxA data0a data0l s1 1 fun a6 =>
        Ld h_5 a6 fun v3 => DS v3 fun x3 =>
        ∃ r3, (CallsH Try.prog 151 [.string x2, .string x3] h_5 fun r2 h_6 =>
        r2 = r3 ∧ h_6 = h_5) ∧
        DB r3 fun x4 =>
        (bif !x4 then
          again1 (IntKind.wrap .i64 (s1 + 1)) h_5
        else
          LoopH (fun again2 (s2 : Int) h_7 =>
            (bif decide ((s1 : Int) ≤ s2) then
              IdxA data0a data0l a0 1 fun a7 =>
              Ld h_7 a7 fun v4 => DS v4 fun x5 =>
              IdxA data0a data0l s2 1 fun a8 =>
              Ld h_7 a8 fun v5 => DS v5 fun x6 =>
              ∃ r5, (CallsH Try.prog 151 [.string x5, .string x6] h_7 fun r4 h_8 =>
              r4 = r5 ∧ h_8 = h_7) ∧
              DB r5 fun x7 =>
              (bif x7 then
                again2 (IntKind.wrap .i64 (s2 - 1)) h_7
              else
                (bif decide ((s1 : Int) > s2) then
                  Q (.int .i64 s1) h_7
                else
                  IdxA data0a data0l s2 1 fun a9 =>
                  Ld h_7 a9 fun v6 => DS v6 fun x8 =>
                  IdxA data0a data0l s1 1 fun a10 =>
                  Ld h_7 a10 fun v7 => DS v7 fun x9 =>
                  IdxA data0a data0l s1 1 fun a11 =>
                  StC h_7 (a11.add 0) (.string x8) fun h_10 =>
                  (SameV (some (.slice data0a data0l data0c)) (.slice data0a data0l data0c)) ∧
                  (SameV (some (.int .i64 s2)) (.int .i64 s2)) ∧
                  IdxA data0a data0l s2 1 fun a12 =>
                  StC h_10 (a12.add 0) (.string x9) fun h_12 =>
                  again0 (IntKind.wrap .i64 (s1 + 1), IntKind.wrap .i64 (s2 - 1)) h_12))
            else
              (bif decide ((s1 : Int) > s2) then
                Q (.int .i64 s1) h_7
              else
                IdxA data0a data0l s2 1 fun a13 =>
                Ld h_7 a13 fun v8 => DS v8 fun x10 =>
                IdxA data0a data0l s1 1 fun a14 =>
                Ld h_7 a14 fun v9 => DS v9 fun x11 =>
                IdxA data0a data0l s1 1 fun a15 =>
                StC h_7 (a15.add 0) (.string x10) fun h_14 =>
                (SameV (some (.slice data0a data0l data0c)) (.slice data0a data0l data0c)) ∧
                (SameV (some (.int .i64 s2)) (.int .i64 s2)) ∧
                IdxA data0a data0l s2 1 fun a16 =>
                StC h_14 (a16.add 0) (.string x11) fun h_16 =>
                again0 (IntKind.wrap .i64 (s1 + 1), IntKind.wrap .i64 (s2 - 1)) h_16))) s0.2 h_5)
      else
        LoopH (fun again3 (s3 : Int) h_17 =>
          (bif decide ((s1 : Int) ≤ s3) then
            IdxA data0a data0l a0 1 fun a17 =>
            Ld h_17 a17 fun v10 => DS v10 fun x12 =>
            IdxA data0a data0l s3 1 fun a18 =>
            Ld h_17 a18 fun v11 => DS v11 fun x13 =>
            ∃ r11, (CallsH Try.prog 151 [.string x12, .string x13] h_17 fun r10 h_18 =>
            r10 = r11 ∧ h_18 = h_17) ∧
            DB r11 fun x14 =>
            (bif x14 then
              again3 (IntKind.wrap .i64 (s3 - 1)) h_17
            else
              (bif decide ((s1 : Int) > s3) then
                Q (.int .i64 s1) h_17
              else
                IdxA data0a data0l s3 1 fun a19 =>
                Ld h_17 a19 fun v12 => DS v12 fun x15 =>
                IdxA data0a data0l s1 1 fun a20 =>
                Ld h_17 a20 fun v13 => DS v13 fun x16 =>
                IdxA data0a data0l s1 1 fun a21 =>
                StC h_17 (a21.add 0) (.string x15) fun h_20 =>
                (SameV (some (.slice data0a data0l data0c)) (.slice data0a data0l data0c)) ∧
                (SameV (some (.int .i64 s3)) (.int .i64 s3)) ∧
                IdxA data0a data0l s3 1 fun a22 =>
                StC h_20 (a22.add 0) (.string x16) fun h_22 =>
                again0 (IntKind.wrap .i64 (s1 + 1), IntKind.wrap .i64 (s3 - 1)) h_22))
          else
            (bif decide ((s1 : Int) > s3) then
              Q (.int .i64 s1) h_17
            else
              IdxA data0a data0l s3 1 fun a23 =>
              Ld h_17 a23 fun v14 => DS v14 fun x17 =>
              IdxA data0a data0l s1 1 fun a24 =>
              Ld h_17 a24 fun v15 => DS v15 fun x18 =>
              IdxA data0a data0l s1 1 fun a25 =>
              StC h_17 (a25.add 0) (.string x17) fun h_24 =>
              (SameV (some (.slice data0a data0l data0c)) (.slice data0a data0l data0c)) ∧
              (SameV (some (.int .i64 s3)) (.int .i64 s3)) ∧
              IdxA data0a data0l s3 1 fun a26 =>
              StC h_24 (a26.add 0) (.string x18) fun h_26 =>
              again0 (IntKind.wrap .i64 (s1 + 1), IntKind.wrap .i64 (s3 - 1)) h_26))) s0.2 h_5)) s0.1 h_4) (IntKind.wrap .i64 (a0 + 1), IntKind.wrap .i64 (b0 - 1)) h_3
theorem F152_eq : (fun (data0a : Option Addr) (data0l : Nat) (data0c : Nat) (a0 : Int) (b0 : Int) (pivot0 : Int) (h : Heap) (Q : Value → Heap → Prop) => fnPT Try.prog Try.f152 (fun i => bif Nat.beq i 0 then annCons 9 (codI .i64) (annOne 10 (codI .i64)) else bif Nat.beq i 2 then annOne 9 (codI .i64) else bif Nat.beq i 4 then annOne 10 (codI .i64) else annNil) (fun _ => []) (fun i => bif Nat.beq i 1 then some ⟨[0, 0, 0, 0, 0, 0, 48, 112, 0, 0, 768, 1792, 4083, 8179, 16383, 32767], 40960⟩ else bif Nat.beq i 8 then some ⟨[0, 0, 0, 0, 0, 0, 48, 112, 0, 0, 768, 1792, 4083, 8179, 16383, 32767], 40960⟩ else none) [.slice data0a data0l data0c, .int .i64 a0, .int .i64 b0, .int .i64 pivot0] h Q) = F152 := by kernel_rfl
theorem F152_ok {data0a : Option Addr} {data0l : Nat} {data0c : Nat} {a0 : Int} {b0 : Int} {pivot0 : Int} {h : Heap} {Q : Value → Heap → Prop} (H : F152 data0a data0l data0c a0 b0 pivot0 h Q) : CallsH Try.prog 152 [.slice data0a data0l data0c, .int .i64 a0, .int .i64 b0, .int .i64 pivot0] h Q :=
  callsH_of (ann := fun i => bif Nat.beq i 0 then annCons 9 (codI .i64) (annOne 10 (codI .i64)) else bif Nat.beq i 2 then annOne 9 (codI .i64) else bif Nat.beq i 4 then annOne 10 (codI .i64) else annNil) (tys := fun _ => []) (pl := fun i => bif Nat.beq i 1 then some ⟨[0, 0, 0, 0, 0, 0, 48, 112, 0, 0, 768, 1792, 4083, 8179, 16383, 32767], 40960⟩ else bif Nat.beq i 8 then some ⟨[0, 0, 0, 0, 0, 0, 48, 112, 0, 0, 768, 1792, 4083, 8179, 16383, 32767], 40960⟩ else none) Try.func152 (by kernel_rfl) (by have e := F152_eq; exact (congrFun (congrFun (congrFun (congrFun (congrFun (congrFun (congrFun (congrFun (e) data0a) data0l) data0c) a0) b0) pivot0) h) Q).symm ▸ H)

/-- slices.partitionOrdered[string] -/
def F153 (data0a : Option Addr) (data0l : Nat) (data0c : Nat) (a0 : Int) (b0 : Int) (pivot0 : Int) (h : Heap) (Q : Value → Heap → Prop) : Prop :=
  IdxA data0a data0l pivot0 1 fun a1 =>
  Ld h a1 fun v0 => DS v0 fun x0 =>
  IdxA data0a data0l a0 1 fun a2 =>
  Ld h a2 fun v1 => DS v1 fun x1 =>
  IdxA data0a data0l a0 1 fun a3 =>
  StC h (a3.add 0) (.string x0) fun h_1 =>
  (SameV (some (.slice data0a data0l data0c)) (.slice data0a data0l data0c)) ∧
  (SameV (some (.int .i64 pivot0)) (.int .i64 pivot0)) ∧
  IdxA data0a data0l pivot0 1 fun a4 =>
  StC h_1 (a4.add 0) (.string x1) fun h_3 =>
  LoopH (fun again0 (s0 : Int) h_4 =>
    (bif decide ((s0 : Int) ≤ (IntKind.wrap .i64 (b0 - 1))) then
      IdxA data0a data0l s0 1 fun a5 =>
      Ld h_4 a5 fun v2 => DS v2 fun x2 =>
      IdxA data0a data0l a0 1 fun a6 =>
      Ld h_4 a6 fun v3 => DS v3 fun x3 =>
      ∃ r3, (CallsH Try.prog 151 [.string x2, .string x3] h_4 fun r2 h_5 =>
      r2 = r3 ∧ h_5 = h_4) ∧
      DB r3 fun x4 =>
      (bif x4 then
        again0 (IntKind.wrap .i64 (s0 + 1)) h_4
      else
        LoopH (fun again1 (s1 : Int) h_6 =>
          (bif decide ((s0 : Int) ≤ s1) then
            IdxA data0a data0l s1 1 fun a7 =>
            Ld h_6 a7 fun v4 => DS v4 fun x5 =>
            IdxA data0a data0l a0 1 fun a8 =>
            Ld h_6 a8 fun v5 => DS v5 fun x6 =>
            ∃ r5, (CallsH Try.prog 151 [.string x5, .string x6] h_6 fun r4 h_7 =>
            r4 = r5 ∧ h_7 = h_6) ∧
            DB r5 fun x7 =>
            (bif !x7 then
              again1 (IntKind.wrap .i64 (s1 - 1)) h_6
            else
              (bif decide ((s0 : Int) > s1) then
                IdxA data0a data0l a0 1 fun a9 =>
                Ld h_6 a9 fun v6 => DS v6 fun x8 =>
                IdxA data0a data0l s1 1 fun a10 =>
                Ld h_6 a10 fun v7 => DS v7 fun x9 =>
                IdxA data0a data0l s1 1 fun a11 =>
                StC h_6 (a11.add 0) (.string x8) fun h_9 =>
                (SameV (some (.slice data0a data0l data0c)) (.slice data0a data0l data0c)) ∧
                (SameV (some (.int .i64 a0)) (.int .i64 a0)) ∧
                IdxA data0a data0l a0 1 fun a12 =>
                StC h_9 (a12.add 0) (.string x9) fun h_11 =>
                Q (.tuple #[.int .i64 s1, .bool true]) h_11
              else
                IdxA data0a data0l s1 1 fun a13 =>
                Ld h_6 a13 fun v8 => DS v8 fun x10 =>
                IdxA data0a data0l s0 1 fun a14 =>
                Ld h_6 a14 fun v9 => DS v9 fun x11 =>
                IdxA data0a data0l s0 1 fun a15 =>
                StC h_6 (a15.add 0) (.string x10) fun h_13 =>
                (SameV (some (.slice data0a data0l data0c)) (.slice data0a data0l data0c)) ∧
                (SameV (some (.int .i64 s1)) (.int .i64 s1)) ∧
                IdxA data0a data0l s1 1 fun a16 =>
                StC h_13 (a16.add 0) (.string x11) fun h_15 =>
                LoopH (fun again2 (s2 : Int × Int) h_16 =>
                  LoopH (fun again3 (s3 : Int) h_17 =>
                    (bif decide ((s3 : Int) ≤ s2.2) then
                      IdxA data0a data0l s3 1 fun a17 =>
                      Ld h_17 a17 fun v10 => DS v10 fun x12 =>
                      IdxA data0a data0l a0 1 fun a18 =>
                      Ld h_17 a18 fun v11 => DS v11 fun x13 =>
                      ∃ r11, (CallsH Try.prog 151 [.string x12, .string x13] h_17 fun r10 h_18 =>
                      r10 = r11 ∧ h_18 = h_17) ∧
                      DB r11 fun x14 =>
                      (bif x14 then
                        again3 (IntKind.wrap .i64 (s3 + 1)) h_17
                      else
                        LoopH (fun again4 (s4 : Int) h_19 =>
                          (bif decide ((s3 : Int) ≤ s4) then
                            IdxA data0a data0l s4 1 fun a19 =>
                            Ld h_19 a19 fun v12 => DS v12 fun x15 =>
                            IdxA data0a data0l a0 1 fun a20 =>
                            Ld h_19 a20 fun v13 => DS v13 fun x16 =>
                            ∃ r13, (CallsH Try.prog 151 [.string x15, .string x16] h_19 fun r12 h_20 =>
                            r12 = r13 ∧ h_20 = h_19) ∧
                            DB r13 fun x17 =>
                            (bif !x17 then
                              again4 (IntKind.wrap .i64 (s4 - 1)) h_19
                            else
                              (bif decide ((s3 : Int) > s4) then
                                IdxA data0a data0l a0 1 fun a21 =>
                                Ld h_19 a21 fun v14 => DS v14 fun x18 =>
                                IdxA data0a data0l s4 1 fun a22 =>
                                Ld h_19 a22 fun v15 => DS v15 fun x19 =>
                                IdxA data0a data0l s4 1 fun a23 =>
                                StC h_19 (a23.add 0) (.string x18) fun h_22 =>
                                (SameV (some (.slice data0a data0l data0c)) (.slice data0a data0l data0c)) ∧
                                (SameV (some (.int .i64 a0)) (.int .i64 a0)) ∧
                                IdxA data0a data0l a0 1 fun a24 =>
                                StC h_22 (a24.add 0) (.string x19) fun h_24 =>
                                Q (.tuple #[.int .i64 s4, .bool false]) h_24
                              else
                                IdxA data0a data0l s4 1 fun a25 =>
                                Ld h_19 a25 fun v16 => DS v16 fun x20 =>
                                IdxA data0a data0l s3 1 fun a26 =>
                                Ld h_19 a26 fun v17 => DS v17 fun x21 =>
                                IdxA data0a data0l s3 1 fun a27 =>
                                StC h_19 (a27.add 0) (.string x20) fun h_26 =>
                                (SameV (some (.slice data0a data0l data0c)) (.slice data0a data0l data0c)) ∧
                                (SameV (some (.int .i64 s4)) (.int .i64 s4)) ∧
                                IdxA data0a data0l s4 1 fun a28 =>
                                StC h_26 (a28.add 0) (.string x21) fun h_28 =>
                                again2 (IntKind.wrap .i64 (s3 + 1), IntKind.wrap .i64 (s4 - 1)) h_28))
                          else
                            (bif decide ((s3 : Int) > s4) then
                              IdxA data0a data0l a0 1 fun a29 =>
                              Ld h_19 a29 fun v18 => DS v18 fun x22 =>
                              IdxA data0a data0l s4 1 fun a30 =>
                              Ld h_19 a30 fun v19 => DS v19 fun x23 =>
                              IdxA data0a data0l s4 1 fun a31 =>
                              StC h_19 (a31.add 0) (.string x22) fun h_30 =>
                              (SameV (some (.slice data0a data0l data0c)) (.slice data0a data0l data0c)) ∧
                              (SameV (some (.int .i64 a0)) (.int .i64 a0)) ∧
                              IdxA data0a data0l a0 1 fun a32 =>
                              StC h_30 (a32.add 0) (.string x23) fun h_32 =>
                              Q (.tuple #[.int .i64 s4, .bool false]) h_32
                            else
                              IdxA data0a data0l s4 1 fun a33 =>
                              Ld h_19 a33 fun v20 => DS v20 fun x24 =>
                              IdxA data0a data0l s3 1 fun a34 =>
                              Ld h_19 a34 fun v21 => DS v21 fun x25 =>
                              IdxA data0a data0l s3 1 fun a35 =>
                              StC h_19 (a35.add 0) (.string x24) fun h_34 =>
                              (SameV (some (.slice data0a data0l data0c)) (.slice data0a data0l data0c)) ∧
                              (SameV (some (.int .i64 s4)) (.int .i64 s4)) ∧
                              IdxA data0a data0l s4 1 fun a36 =>
                              StC h_34 (a36.add 0) (.string x25) fun h_36 =>
                              again2 (IntKind.wrap .i64 (s3 + 1), IntKind.wrap .i64 (s4 - 1)) h_36))) s2.2 h_17)
                    else
                      LoopH (fun again5 (s5 : Int) h_37 =>
                        (bif decide ((s3 : Int) ≤ s5) then
                          IdxA data0a data0l s5 1 fun a37 =>
                          Ld h_37 a37 fun v22 => DS v22 fun x26 =>
                          IdxA data0a data0l a0 1 fun a38 =>
                          Ld h_37 a38 fun v23 => DS v23 fun x27 =>
                          ∃ r23, (CallsH Try.prog 151 [.string x26, .string x27] h_37 fun r22 h_38 =>
                          r22 = r23 ∧ h_38 = h_37) ∧
                          DB r23 fun x28 =>
                          (bif !x28 then
                            again5 (IntKind.wrap .i64 (s5 - 1)) h_37
                          else
                            (bif decide ((s3 : Int) > s5) then
                              IdxA data0a data0l a0 1 fun a39 =>
                              Ld h_37 a39 fun v24 => DS v24 fun x29 =>
                              IdxA data0a data0l s5 1 fun a40 =>
                              Ld h_37 a40 fun v25 => DS v25 fun x30 =>
                              IdxA data0a data0l s5 1 fun a41 =>
                              StC h_37 (a41.add 0) (.string x29) fun h_40 =>
                              (SameV (some (.slice data0a data0l data0c)) (.slice data0a data0l data0c)) ∧
                              (SameV (some (.int .i64 a0)) (.int .i64 a0)) ∧
                              IdxA data0a data0l a0 1 fun a42 =>
                              StC h_40 (a42.add 0) (.string x30) fun h_42 =>
                              Q (.tuple #[.int .i64 s5, .bool false]) h_42
                            else
                              IdxA data0a data0l s5 1 fun a43 =>
                              Ld h_37 a43 fun v26 => DS v26 fun x31 =>
                              IdxA data0a data0l s3 1 fun a44 =>
                              Ld h_37 a44 fun v27 => DS v27 fun x32 =>
                              IdxA data0a data0l s3 1 fun a45 =>
                              StC h_37 (a45.add 0) (.string x31) fun h_44 =>
                              (SameV (some (.slice data0a data0l data0c)) (.slice data0a data0l data0c)) ∧
                              (SameV (some (.int .i64 s5)) (.int .i64 s5)) ∧
                              IdxA data0a data0l s5 1 fun a46 =>
                              StC h_44 (a46.add 0) (.string x32) fun h_46 =>
                              again2 (IntKind.wrap .i64 (s3 + 1), IntKind.wrap .i64 (s5 - 1)) h_46))
                        else
                          (bif decide ((s3 : Int) > s5) then
                            IdxA data0a data0l a0 1 fun a47 =>
                            Ld h_37 a47 fun v28 => DS v28 fun x33 =>
                            IdxA data0a data0l s5 1 fun a48 =>
                            Ld h_37 a48 fun v29 => DS v29 fun x34 =>
                            IdxA data0a data0l s5 1 fun a49 =>
                            StC h_37 (a49.add 0) (.string x33) fun h_48 =>
                            (SameV (some (.slice data0a data0l data0c)) (.slice data0a data0l data0c)) ∧
                            (SameV (some (.int .i64 a0)) (.int .i64 a0)) ∧
                            IdxA data0a data0l a0 1 fun a50 =>
                            StC h_48 (a50.add 0) (.string x34) fun h_50 =>
                            Q (.tuple #[.int .i64 s5, .bool false]) h_50
                          else
                            IdxA data0a data0l s5 1 fun a51 =>
                            Ld h_37 a51 fun v30 => DS v30 fun x35 =>
                            IdxA data0a data0l s3 1 fun a52 =>
                            Ld h_37 a52 fun v31 => DS v31 fun x36 =>
                            IdxA data0a data0l s3 1 fun a53 =>
                            StC h_37 (a53.add 0) (.string x35) fun h_52 =>
                            (SameV (some (.slice data0a data0l data0c)) (.slice data0a data0l data0c)) ∧
                            (SameV (some (.int .i64 s5)) (.int .i64 s5)) ∧
                            IdxA data0a data0l s5 1 fun a54 =>
                            StC h_52 (a54.add 0) (.string x36) fun h_54 =>
                            again2 (IntKind.wrap .i64 (s3 + 1), IntKind.wrap .i64 (s5 - 1)) h_54))) s2.2 h_17)) s2.1 h_16) (IntKind.wrap .i64 (s0 + 1), IntKind.wrap .i64 (s1 - 1)) h_15))
          else
            (bif decide ((s0 : Int) > s1) then
              IdxA data0a data0l a0 1 fun a55 =>
              Ld h_6 a55 fun v32 => DS v32 fun x37 =>
              IdxA data0a data0l s1 1 fun a56 =>
              Ld h_6 a56 fun v33 => DS v33 fun x38 =>
              IdxA data0a data0l s1 1 fun a57 =>
              StC h_6 (a57.add 0) (.string x37) fun h_56 =>
              (SameV (some (.slice data0a data0l data0c)) (.slice data0a data0l data0c)) ∧
              (SameV (some (.int .i64 a0)) (.int .i64 a0)) ∧
              IdxA data0a data0l a0 1 fun a58 =>
              StC h_56 (a58.add 0) (.string x38) fun h_58 =>
              Q (.tuple #[.int .i64 s1, .bool true]) h_58
            else
              IdxA data0a data0l s1 1 fun a59 =>
              Ld h_6 a59 fun v34 => DS v34 fun x39 =>
              IdxA data0a data0l s0 1 fun a60 =>
              Ld h_6 a60 fun v35 => DS v35 fun x40 =>
              IdxA data0a data0l s0 1 fun a61 =>
              StC h_6 (a61.add 0) (.string x39) fun h_60 =>
              (SameV (some (.slice data0a data0l data0c)) (.slice data0a data0l data0c)) ∧
              (SameV (some (.int .i64 s1)) (.int .i64 s1)) ∧
              IdxA data0a data0l s1 1 fun a62 =>
              StC h_60 (a62.add 0) (.string x40) fun h_62 =>
              LoopH (fun again6 (s6 : Int × Int) h_63 =>
                LoopH (fun again7 (s7 : Int) h_64 =>
                  (bif decide ((s7 : Int) ≤ s6.2) then
                    IdxA data0a data0l s7 1 fun a63 =>
                    Ld h_64 a63 fun v36 => DS v36 fun x41 =>
                    IdxA data0a data0l a0 1 fun a64 =>
                    Ld h_64 a64 fun v37 => DS v37 fun x42 =>
                    ∃ r37, (CallsH Try.prog 151 [.string x41, .string x42] h_64 fun r36 h_65 =>
                    r36 = r37 ∧ h_65 = h_64) ∧
                    DB r37 fun x43 =>
                    (bif x43 then
                      again7 (IntKind.wrap .i64 (s7 + 1)) h_64
                    else
                      LoopH (fun again8 (s8 : Int) h_66 =>
                        (bif decide ((s7 : Int) ≤ s8) then
                          IdxA data0a data0l s8 1 fun a65 =>
                          Ld h_66 a65 fun v38 => DS v38 fun x44 =>
                          IdxA data0a data0l a0 1 fun a66 =>
                          Ld h_66 a66 fun v39 => DS v39 fun x45 =>
                          ∃ r39, (CallsH Try.prog 151 [.string x44, .string x45] h_66 fun r38 h_67 =>
                          r38 = r39 ∧ h_67 = h_66) ∧
                          DB r39 fun x46 =>
                          (bif !x46 then
                            again8 (IntKind.wrap .i64 (s8 - 1)) h_66
                          else
                            (bif decide ((s7 : Int) > s8) then
                              IdxA data0a data0l a0 1 fun a67 =>
                              Ld h_66 a67 fun v40 => DS v40 fun x47 =>
                              IdxA data0a data0l s8 1 fun a68 =>
                              Ld h_66 a68 fun v41 => DS v41 fun x48 =>
                              IdxA data0a data0l s8 1 fun a69 =>
                              StC h_66 (a69.add 0) (.string x47) fun h_69 =>
                              (SameV (some (.slice data0a data0l data0c)) (.slice data0a data0l data0c)) ∧
                              (SameV (some (.int .i64 a0)) (.int .i64 a0)) ∧
                              IdxA data0a data0l a0 1 fun a70 =>
                              StC h_69 (a70.add 0) (.string x48) fun h_71 =>
                              Q (.tuple #[.int .i64 s8, .bool false]) h_71
                            else
                              IdxA data0a data0l s8 1 fun a71 =>
                              Ld h_66 a71 fun v42 => DS v42 fun x49 =>
                              IdxA data0a data0l s7 1 fun a72 =>
                              Ld h_66 a72 fun v43 => DS v43 fun x50 =>
                              IdxA data0a data0l s7 1 fun a73 =>
                              StC h_66 (a73.add 0) (.string x49) fun h_73 =>
                              (SameV (some (.slice data0a data0l data0c)) (.slice data0a data0l data0c)) ∧
                              (SameV (some (.int .i64 s8)) (.int .i64 s8)) ∧
                              IdxA data0a data0l s8 1 fun a74 =>
                              StC h_73 (a74.add 0) (.string x50) fun h_75 =>
                              again6 (IntKind.wrap .i64 (s7 + 1), IntKind.wrap .i64 (s8 - 1)) h_75))
                        else
                          (bif decide ((s7 : Int) > s8) then
                            IdxA data0a data0l a0 1 fun a75 =>
                            Ld h_66 a75 fun v44 => DS v44 fun x51 =>
                            IdxA data0a data0l s8 1 fun a76 =>
                            Ld h_66 a76 fun v45 => DS v45 fun x52 =>
                            IdxA data0a data0l s8 1 fun a77 =>
                            StC h_66 (a77.add 0) (.string x51) fun h_77 =>
                            (SameV (some (.slice data0a data0l data0c)) (.slice data0a data0l data0c)) ∧
                            (SameV (some (.int .i64 a0)) (.int .i64 a0)) ∧
                            IdxA data0a data0l a0 1 fun a78 =>
                            StC h_77 (a78.add 0) (.string x52) fun h_79 =>
                            Q (.tuple #[.int .i64 s8, .bool false]) h_79
                          else
                            IdxA data0a data0l s8 1 fun a79 =>
                            Ld h_66 a79 fun v46 => DS v46 fun x53 =>
                            IdxA data0a data0l s7 1 fun a80 =>
                            Ld h_66 a80 fun v47 => DS v47 fun x54 =>
                            IdxA data0a data0l s7 1 fun a81 =>
                            StC h_66 (a81.add 0) (.string x53) fun h_81 =>
                            (SameV (some (.slice data0a data0l data0c)) (.slice data0a data0l data0c)) ∧
                            (SameV (some (.int .i64 s8)) (.int .i64 s8)) ∧
                            IdxA data0a data0l s8 1 fun a82 =>
                            StC h_81 (a82.add 0) (.string x54) fun h_83 =>
                            again6 (IntKind.wrap .i64 (s7 + 1), IntKind.wrap .i64 (s8 - 1)) h_83))) s6.2 h_64)
                  else
                    LoopH (fun again9 (s9 : Int) h_84 =>
                      (bif decide ((s7 : Int) ≤ s9) then
                        IdxA data0a data0l s9 1 fun a83 =>
                        Ld h_84 a83 fun v48 => DS v48 fun x55 =>
                        IdxA data0a data0l a0 1 fun a84 =>
                        Ld h_84 a84 fun v49 => DS v49 fun x56 =>
                        ∃ r49, (CallsH Try.prog 151 [.string x55, .string x56] h_84 fun r48 h_85 =>
                        r48 = r49 ∧ h_85 = h_84) ∧
                        DB r49 fun x57 =>
                        (bif !x57 then
                          again9 (IntKind.wrap .i64 (s9 - 1)) h_84
                        else
                          (bif decide ((s7 : Int) > s9) then
                            IdxA data0a data0l a0 1 fun a85 =>
                            Ld h_84 a85 fun v50 => DS v50 fun x58 =>
                            IdxA data0a data0l s9 1 fun a86 =>
                            Ld h_84 a86 fun v51 => DS v51 fun x59 =>
                            IdxA data0a data0l s9 1 fun a87 =>
                            StC h_84 (a87.add 0) (.string x58) fun h_87 =>
                            (SameV (some (.slice data0a data0l data0c)) (.slice data0a data0l data0c)) ∧
                            (SameV (some (.int .i64 a0)) (.int .i64 a0)) ∧
                            IdxA data0a data0l a0 1 fun a88 =>
                            StC h_87 (a88.add 0) (.string x59) fun h_89 =>
                            Q (.tuple #[.int .i64 s9, .bool false]) h_89
                          else
                            IdxA data0a data0l s9 1 fun a89 =>
                            Ld h_84 a89 fun v52 => DS v52 fun x60 =>
                            IdxA data0a data0l s7 1 fun a90 =>
                            Ld h_84 a90 fun v53 => DS v53 fun x61 =>
                            IdxA data0a data0l s7 1 fun a91 =>
                            StC h_84 (a91.add 0) (.string x60) fun h_91 =>
                            (SameV (some (.slice data0a data0l data0c)) (.slice data0a data0l data0c)) ∧
                            (SameV (some (.int .i64 s9)) (.int .i64 s9)) ∧
                            IdxA data0a data0l s9 1 fun a92 =>
                            StC h_91 (a92.add 0) (.string x61) fun h_93 =>
                            again6 (IntKind.wrap .i64 (s7 + 1), IntKind.wrap .i64 (s9 - 1)) h_93))
                      else
                        (bif decide ((s7 : Int) > s9) then
                          IdxA data0a data0l a0 1 fun a93 =>
                          Ld h_84 a93 fun v54 => DS v54 fun x62 =>
                          IdxA data0a data0l s9 1 fun a94 =>
                          Ld h_84 a94 fun v55 => DS v55 fun x63 =>
                          IdxA data0a data0l s9 1 fun a95 =>
                          StC h_84 (a95.add 0) (.string x62) fun h_95 =>
                          (SameV (some (.slice data0a data0l data0c)) (.slice data0a data0l data0c)) ∧
                          (SameV (some (.int .i64 a0)) (.int .i64 a0)) ∧
                          IdxA data0a data0l a0 1 fun a96 =>
                          StC h_95 (a96.add 0) (.string x63) fun h_97 =>
                          Q (.tuple #[.int .i64 s9, .bool false]) h_97
                        else
                          IdxA data0a data0l s9 1 fun a97 =>
                          Ld h_84 a97 fun v56 => DS v56 fun x64 =>
                          IdxA data0a data0l s7 1 fun a98 =>
                          Ld h_84 a98 fun v57 => DS v57 fun x65 =>
                          IdxA data0a data0l s7 1 fun a99 =>
                          StC h_84 (a99.add 0) (.string x64) fun h_99 =>
                          (SameV (some (.slice data0a data0l data0c)) (.slice data0a data0l data0c)) ∧
                          (SameV (some (.int .i64 s9)) (.int .i64 s9)) ∧
                          IdxA data0a data0l s9 1 fun a100 =>
                          StC h_99 (a100.add 0) (.string x65) fun h_101 =>
                          again6 (IntKind.wrap .i64 (s7 + 1), IntKind.wrap .i64 (s9 - 1)) h_101))) s6.2 h_64)) s6.1 h_63) (IntKind.wrap .i64 (s0 + 1), IntKind.wrap .i64 (s1 - 1)) h_62))) (IntKind.wrap .i64 (b0 - 1)) h_4)
    else
      LoopH (fun again10 (s10 : Int) h_102 =>
        (bif decide ((s0 : Int) ≤ s10) then
          IdxA data0a data0l s10 1 fun a101 =>
          Ld h_102 a101 fun v58 => DS v58 fun x66 =>
          IdxA data0a data0l a0 1 fun a102 =>
          Ld h_102 a102 fun v59 => DS v59 fun x67 =>
          ∃ r59, (CallsH Try.prog 151 [.string x66, .string x67] h_102 fun r58 h_103 =>
          r58 = r59 ∧ h_103 = h_102) ∧
          DB r59 fun x68 =>
          (bif !x68 then
            again10 (IntKind.wrap .i64 (s10 - 1)) h_102
          else
            (bif decide ((s0 : Int) > s10) then
              IdxA data0a data0l a0 1 fun a103 =>
              Ld h_102 a103 fun v60 => DS v60 fun x69 =>
              IdxA data0a data0l s10 1 fun a104 =>
              Ld h_102 a104 fun v61 => DS v61 fun x70 =>
              IdxA data0a data0l s10 1 fun a105 =>
              StC h_102 (a105.add 0) (.string x69) fun h_105 =>
              (SameV (some (.slice data0a data0l data0c)) (.slice data0a data0l data0c)) ∧
              (SameV (some (.int .i64 a0)) (.int .i64 a0)) ∧
              IdxA data0a data0l a0 1 fun a106 =>
              StC h_105 (a106.add 0) (.string x70) fun h_107 =>
              Q (.tuple #[.int .i64 s10, .bool true]) h_107
            else
              IdxA data0a data0l s10 1 fun a107 =>
              Ld h_102 a107 fun v62 => DS v62 fun x71 =>
              IdxA data0a data0l s0 1 fun a108 =>
              Ld h_102 a108 fun v63 => DS v63 fun x72 =>
              IdxA data0a data0l s0 1 fun a109 =>
              StC h_102 (a109.add 0) (.string x71) fun h_109 =>
              (SameV (some (.slice data0a data0l data0c)) (.slice data0a data0l data0c)) ∧
              (SameV (some (.int .i64 s10)) (.int .i64 s10)) ∧
              IdxA data0a data0l s10 1 fun a110 =>
              StC h_109 (a110.add 0) (.string x72) fun h_111 =>
              LoopH (fun again11 (s11 : Int × Int) h_112 =>
                LoopH (fun again12 (s12 : Int) h_113 =>
                  (bif decide ((s12 : Int) ≤ s11.2) then
                    IdxA data0a data0l s12 1 fun a111 =>
                    Ld h_113 a111 fun v64 => DS v64 fun x73 =>
                    IdxA data0a data0l a0 1 fun a112 =>
                    Ld h_113 a112 fun v65 => DS v65 fun x74 =>
                    ∃ r65, (CallsH Try.prog 151 [.string x73, .string x74] h_113 fun r64 h_114 =>
                    r64 = r65 ∧ h_114 = h_113) ∧
                    DB r65 fun x75 =>
                    (bif x75 then
                      again12 (IntKind.wrap .i64 (s12 + 1)) h_113
                    else
                      LoopH (fun again13 (s13 : Int) h_115 =>
                        (bif decide ((s12 : Int) ≤ s13) then
                          IdxA data0a data0l s13 1 fun a113 =>
                          Ld h_115 a113 fun v66 => DS v66 fun x76 =>
                          IdxA data0a data0l a0 1 fun a114 =>
                          Ld h_115 a114 fun v67 => DS v67 fun x77 =>
                          ∃ r67, (CallsH Try.prog 151 [.string x76, .string x77] h_115 fun r66 h_116 =>
                          r66 = r67 ∧ h_116 = h_115) ∧
                          DB r67 fun x78 =>
                          (bif !x78 then
                            again13 (IntKind.wrap .i64 (s13 - 1)) h_115
                          else
                            (bif decide ((s12 : Int) > s13) then
                              IdxA data0a data0l a0 1 fun a115 =>
                              Ld h_115 a115 fun v68 => DS v68 fun x79 =>
                              IdxA data0a data0l s13 1 fun a116 =>
                              Ld h_115 a116 fun v69 => DS v69 fun x80 =>
                              IdxA data0a data0l s13 1 fun a117 =>
                              StC h_115 (a117.add 0) (.string x79) fun h_118 =>
                              (SameV (some (.slice data0a data0l data0c)) (.slice data0a data0l data0c)) ∧
                              (SameV (some (.int .i64 a0)) (.int .i64 a0)) ∧
                              IdxA data0a data0l a0 1 fun a118 =>
                              StC h_118 (a118.add 0) (.string x80) fun h_120 =>
                              Q (.tuple #[.int .i64 s13, .bool false]) h_120
                            else
                              IdxA data0a data0l s13 1 fun a119 =>
                              Ld h_115 a119 fun v70 => DS v70 fun x81 =>
                              IdxA data0a data0l s12 1 fun a120 =>
                              Ld h_115 a120 fun v71 => DS v71 fun x82 =>
                              IdxA data0a data0l s12 1 fun a121 =>
                              StC h_115 (a121.add 0) (.string x81) fun h_122 =>
                              (SameV (some (.slice data0a data0l data0c)) (.slice data0a data0l data0c)) ∧
                              (SameV (some (.int .i64 s13)) (.int .i64 s13)) ∧
                              IdxA data0a data0l s13 1 fun a122 =>
                              StC h_122 (a122.add 0) (.string x82) fun h_124 =>
                              again11 (IntKind.wrap .i64 (s12 + 1), IntKind.wrap .i64 (s13 - 1)) h_124))
                        else
                          (bif decide ((s12 : Int) > s13) then
                            IdxA data0a data0l a0 1 fun a123 =>
                            Ld h_115 a123 fun v72 => DS v72 fun x83 =>
                            IdxA data0a data0l s13 1 fun a124 =>
                            Ld h_115 a124 fun v73 => DS v73 fun x84 =>
                            IdxA data0a data0l s13 1 fun a125 =>
                            StC h_115 (a125.add 0) (.string x83) fun h_126 =>
                            (SameV (some (.slice data0a data0l data0c)) (.slice data0a data0l data0c)) ∧
                            (SameV (some (.int .i64 a0)) (.int .i64 a0)) ∧
                            IdxA data0a data0l a0 1 fun a126 =>
                            StC h_126 (a126.add 0) (.string x84) fun h_128 =>
                            Q (.tuple #[.int .i64 s13, .bool false]) h_128
                          else
                            IdxA data0a data0l s13 1 fun a127 =>
                            Ld h_115 a127 fun v74 => DS v74 fun x85 =>
                            IdxA data0a data0l s12 1 fun a128 =>
                            Ld h_115 a128 fun v75 => DS v75 fun x86 =>
                            IdxA data0a data0l s12 1 fun a129 =>
                            StC h_115 (a129.add 0) (.string x85) fun h_130 =>
                            (SameV (some (.slice data0a data0l data0c)) (.slice data0a data0l data0c)) ∧
                            (SameV (some (.int .i64 s13)) (.int .i64 s13)) ∧
                            IdxA data0a data0l s13 1 fun a130 =>
                            StC h_130 (a130.add 0) (.string x86) fun h_132 =>
                            again11 (IntKind.wrap .i64 (s12 + 1), IntKind.wrap .i64 (s13 - 1)) h_132))) s11.2 h_113)
                  else
                    LoopH (fun again14 (s14 : Int) h_133 =>
                      (bif decide ((s12 : Int) ≤ s14) then
                        IdxA data0a data0l s14 1 fun a131 =>
                        Ld h_133 a131 fun v76 => DS v76 fun x87 =>
                        IdxA data0a data0l a0 1 fun a132 =>
                        Ld h_133 a132 fun v77 => DS v77 fun x88 =>
                        ∃ r77, (CallsH Try.prog 151 [.string x87, .string x88] h_133 fun r76 h_134 =>
                        r76 = r77 ∧ h_134 = h_133) ∧
                        DB r77 fun x89 =>
                        (bif !x89 then
                          again14 (IntKind.wrap .i64 (s14 - 1)) h_133
                        else
                          (bif decide ((s12 : Int) > s14) then
                            IdxA data0a data0l a0 1 fun a133 =>
                            Ld h_133 a133 fun v78 => DS v78 fun x90 =>
                            IdxA data0a data0l s14 1 fun a134 =>
                            Ld h_133 a134 fun v79 => DS v79 fun x91 =>
                            IdxA data0a data0l s14 1 fun a135 =>
                            StC h_133 (a135.add 0) (.string x90) fun h_136 =>
                            (SameV (some (.slice data0a data0l data0c)) (.slice data0a data0l data0c)) ∧
                            (SameV (some (.int .i64 a0)) (.int .i64 a0)) ∧
                            IdxA data0a data0l a0 1 fun a136 =>
                            StC h_136 (a136.add 0) (.string x91) fun h_138 =>
                            Q (.tuple #[.int .i64 s14, .bool false]) h_138
                          else
                            IdxA data0a data0l s14 1 fun a137 =>
                            Ld h_133 a137 fun v80 => DS v80 fun x92 =>
                            IdxA data0a data0l s12 1 fun a138 =>
                            Ld h_133 a138 fun v81 => DS v81 fun x93 =>
                            IdxA data0a data0l s12 1 fun a139 =>
                            StC h_133 (a139.add 0) (.string x92) fun h_140 =>
                            (SameV (some (.slice data0a data0l data0c)) (.slice data0a data0l data0c)) ∧
                            (SameV (some (.int .i64 s14)) (.int .i64 s14)) ∧
                            IdxA data0a data0l s14 1 fun a140 =>
                            StC h_140 (a140.add 0) (.string x93) fun h_142 =>
                            again11 (IntKind.wrap .i64 (s12 + 1), IntKind.wrap .i64 (s14 - 1)) h_142))
                      else
                        (bif decide ((s12 : Int) > s14) then
                          IdxA data0a data0l a0 1 fun a141 =>
                          Ld h_133 a141 fun v82 => DS v82 fun x94 =>
                          IdxA data0a data0l s14 1 fun a142 =>
                          Ld h_133 a142 fun v83 => DS v83 fun x95 =>
                          IdxA data0a data0l s14 1 fun a143 =>
                          StC h_133 (a143.add 0) (.string x94) fun h_144 =>
                          (SameV (some (.slice data0a data0l data0c)) (.slice data0a data0l data0c)) ∧
                          (SameV (some (.int .i64 a0)) (.int .i64 a0)) ∧
                          IdxA data0a data0l a0 1 fun a144 =>
                          StC h_144 (a144.add 0) (.string x95) fun h_146 =>
                          Q (.tuple #[.int .i64 s14, .bool false]) h_146
                        else
                          IdxA data0a data0l s14 1 fun a145 =>
                          Ld h_133 a145 fun v84 => DS v84 fun x96 =>
                          IdxA data0a data0l s12 1 fun a146 =>
                          Ld h_133 a146 fun v85 => DS v85 fun x97 =>
                          IdxA data0a data0l s12 1 fun a147 =>
                          StC h_133 (a147.add 0) (.string x96) fun h_148 =>
                          (SameV (some (.slice data0a data0l data0c)) (.slice data0a data0l data0c)) ∧
                          (SameV (some (.int .i64 s14)) (.int .i64 s14)) ∧
                          IdxA data0a data0l s14 1 fun a148 =>
                          StC h_148 (a148.add 0) (.string x97) fun h_150 =>
                          again11 (IntKind.wrap .i64 (s12 + 1), IntKind.wrap .i64 (s14 - 1)) h_150))) s11.2 h_113)) s11.1 h_112) (IntKind.wrap .i64 (s0 + 1), IntKind.wrap .i64 (s10 - 1)) h_111))
        else
          (bif decide ((s0 : Int) > s10) then
            IdxA data0a data0l a0 1 fun a149 =>
            Ld h_102 a149 fun v86 => DS v86 fun x98 =>
            IdxA data0a data0l s10 1 fun a150 =>
            Ld h_102 a150 fun v87 => DS v87 fun x99 =>
            IdxA data0a data0l s10 1 fun a151 =>
            StC h_102 (a151.add 0) (.string x98) fun h_152 =>
            (SameV (some (.slice data0a data0l data0c)) (.slice data0a data0l data0c)) ∧
            (SameV (some (.int .i64 a0)) (.int .i64 a0)) ∧
            IdxA data0a data0l a0 1 fun a152 =>
            StC h_152 (a152.add 0) (.string x99) fun h_154 =>
            Q (.tuple #[.int .i64 s10, .bool true]) h_154
          else
            IdxA data0a data0l s10 1 fun a153 =>
            Ld h_102 a153 fun v88 => DS v88 fun x100 =>
            IdxA data0a data0l s0 1 fun a154 =>
            Ld h_102 a154 fun v89 => DS v89 fun x101 =>
            IdxA data0a data0l s0 1 fun a155 =>
            StC h_102 (a155.add 0) (.string x100) fun h_156 =>
            (SameV (some (.slice data0a data0l data0c)) (.slice data0a data0l data0c)) ∧
            (SameV (some (.int .i64 s10)) (.int .i64 s10)) ∧
            IdxA data0a data0l s10 1 fun a156 =>
            StC h_156 (a156.add 0) (.string x101) fun h_158 =>
            LoopH (fun again15 (s15 : Int × Int) h_159 =>
              LoopH (fun again16 (s16 : Int) h_160 =>
                (bif decide ((s16 : Int) ≤ s15.2) then
                  IdxA data0a data0l s16 1 fun a157 =>
                  Ld h_160 a157 fun v90 => DS v90 fun x102 =>
                  IdxA data0a data0l a0 1 fun a158 =>
                  Ld h_160 a158 fun v91 => DS v91 fun x103 =>
                  ∃ r91, (CallsH Try.prog 151 [.string x102, .string x103] h_160 fun r90 h_161 =>
                  r90 = r91 ∧ h_161 = h_160) ∧
                  DB r91 fun x104 =>
                  (bif x104 then
                    again16 (IntKind.wrap .i64 (s16 + 1)) h_160
                  else
                    LoopH (fun again17 (s17 : Int) h_162 =>
                      (bif decide ((s16 : Int) ≤ s17) then
                        IdxA data0a data0l s17 1 fun a159 =>
                        Ld h_162 a159 fun v92 => DS v92 fun x105 =>
                        IdxA data0a data0l a0 1 fun a160 =>
                        Ld h_162 a160 fun v93 => DS v93 fun x106 =>
                        ∃ r93, (CallsH Try.prog 151 [.string x105, .string x106] h_162 fun r92 h_163 =>
                        r92 = r93 ∧ h_163 = h_162) ∧
                        DB r93 fun x107 =>
                        (bif !x107 then
                          again17 (IntKind.wrap .i64 (s17 - 1)) h_162
                        else
                          (bif decide ((s16 : Int) > s17) then
                            IdxA data0a data0l a0 1 fun a161 =>
                            Ld h_162 a161 fun v94 => DS v94 fun x108 =>
                            IdxA data0a data0l s17 1 fun a162 =>
                            Ld h_162 a162 fun v95 => DS v95 fun x109 =>
                            IdxA data0a data0l s17 1 fun a163 =>
                            StC h_162 (a163.add 0) (.string x108) fun h_165 =>
                            (SameV (some (.slice data0a data0l data0c)) (.slice data0a data0l data0c)) ∧
                            (SameV (some (.int .i64 a0)) (.int .i64 a0)) ∧
                            IdxA data0a data0l a0 1 fun a164 =>
                            StC h_165 (a164.add 0) (.string x109) fun h_167 =>
                            Q (.tuple #[.int .i64 s17, .bool false]) h_167
                          else
                            IdxA data0a data0l s17 1 fun a165 =>
                            Ld h_162 a165 fun v96 => DS v96 fun x110 =>
                            IdxA data0a data0l s16 1 fun a166 =>
                            Ld h_162 a166 fun v97 => DS v97 fun x111 =>
                            IdxA data0a data0l s16 1 fun a167 =>
                            StC h_162 (a167.add 0) (.string x110) fun h_169 =>
                            (SameV (some (.slice data0a data0l data0c)) (.slice data0a data0l data0c)) ∧
                            (SameV (some (.int .i64 s17)) (.int .i64 s17)) ∧
                            IdxA data0a data0l s17 1 fun a168 =>
                            StC h_169 (a168.add 0) (.string x111) fun h_171 =>
                            again15 (IntKind.wrap .i64 (s16 + 1), IntKind.wrap .i64 (s17 - 1)) h_171))
                      else
                        (bif decide ((s16 : Int) > s17) then
                          IdxA data0a data0l a0 1 fun a169 =>
                          Ld h_162 a169 fun v98 => DS v98 fun x112 =>
                          IdxA data0a data0l s17 1 fun a170 =>
                          Ld h_162 a170 fun v99 => DS v99 fun x113 =>
                          IdxA data0a data0l s17 1 fun a171 =>
                          StC h_162 (a171.add 0) (.string x112) fun h_173 =>
                          (SameV (some (.slice data0a data0l data0c)) (.slice data0a data0l data0c)) ∧
                          (SameV (some (.int .i64 a0)) (.int .i64 a0)) ∧
                          IdxA data0a data0l a0 1 fun a172 =>
                          StC h_173 (a172.add 0) (.string x113) fun h_175 =>
                          Q (.tuple #[.int .i64 s17, .bool false]) h_175
                        else
                          IdxA data0a data0l s17 1 fun a173 =>
                          Ld h_162 a173 fun v100 => DS v100 fun x114 =>
                          IdxA data0a data0l s16 1 fun a174 =>
                          Ld h_162 a174 fun v101 => DS v101 fun x115 =>
                          IdxA data0a data0l s16 1 fun a175 =>
                          StC h_162 (a175.add 0) (.string x114) fun h_177 =>
                          (SameV (some (.slice data0a data0l data0c)) (.slice data0a data0l data0c)) ∧
                          (SameV (some (.int .i64 s17)) (.int .i64 s17)) ∧
                          IdxA data0a data0l s17 1 fun a176 =>
                          StC h_177 (a176.add 0) (.string x115) fun h_179 =>
                          again15 (IntKind.wrap .i64 (s16 + 1), IntKind.wrap .i64 (s17 - 1)) h_179))) s15.2 h_160)
                else
                  LoopH (fun again18 (s18 : Int) h_180 =>
                    (bif decide ((s16 : Int) ≤ s18) then
                      IdxA data0a data0l s18 1 fun a177 =>
                      Ld h_180 a177 fun v102 => DS v102 fun x116 =>
                      IdxA data0a data0l a0 1 fun a178 =>
                      Ld h_180 a178 fun v103 => DS v103 fun x117 =>
                      ∃ r103, (CallsH Try.prog 151 [.string x116, .string x117] h_180 fun r102 h_181 =>
                      r102 = r103 ∧ h_181 = h_180) ∧
                      DB r103 fun x118 =>
                      (bif !x118 then
                        again18 (IntKind.wrap .i64 (s18 - 1)) h_180
                      else
                        (bif decide ((s16 : Int) > s18) then
                          IdxA data0a data0l a0 1 fun a179 =>
                          Ld h_180 a179 fun v104 => DS v104 fun x119 =>
                          IdxA data0a data0l s18 1 fun a180 =>
                          Ld h_180 a180 fun v105 => DS v105 fun x120 =>
                          IdxA data0a data0l s18 1 fun a181 =>
                          StC h_180 (a181.add 0) (.string x119) fun h_183 =>
                          (SameV (some (.slice data0a data0l data0c)) (.slice data0a data0l data0c)) ∧
                          (SameV (some (.int .i64 a0)) (.int .i64 a0)) ∧
                          IdxA data0a data0l a0 1 fun a182 =>
                          StC h_183 (a182.add 0) (.string x120) fun h_185 =>
                          Q (.tuple #[.int .i64 s18, .bool false]) h_185
                        else
                          IdxA data0a data0l s18 1 fun a183 =>
                          Ld h_180 a183 fun v106 => DS v106 fun x121 =>
                          IdxA data0a data0l s16 1 fun a184 =>
                          Ld h_180 a184 fun v107 => DS v107 fun x122 =>
                          IdxA data0a data0l s16 1 fun a185 =>
                          StC h_180 (a185.add 0) (.string x121) fun h_187 =>
                          (SameV (some (.slice data0a data0l data0c)) (.slice data0a data0l data0c)) ∧
                          (SameV (some (.int .i64 s18)) (.int .i64 s18)) ∧
                          IdxA data0a data0l s18 1 fun a186 =>
                          StC h_187 (a186.add 0) (.string x122) fun h_189 =>
                          again15 (IntKind.wrap .i64 (s16 + 1), IntKind.wrap .i64 (s18 - 1)) h_189))
                    else
                      (bif decide ((s16 : Int) > s18) then
                        IdxA data0a data0l a0 1 fun a187 =>
                        Ld h_180 a187 fun v108 => DS v108 fun x123 =>
                        IdxA data0a data0l s18 1 fun a188 =>
                        Ld h_180 a188 fun v109 => DS v109 fun x124 =>
                        IdxA data0a data0l s18 1 fun a189 =>
                        StC h_180 (a189.add 0) (.string x123) fun h_191 =>
                        (SameV (some (.slice data0a data0l data0c)) (.slice data0a data0l data0c)) ∧
                        (SameV (some (.int .i64 a0)) (.int .i64 a0)) ∧
                        IdxA data0a data0l a0 1 fun a190 =>
                        StC h_191 (a190.add 0) (.string x124) fun h_193 =>
                        Q (.tuple #[.int .i64 s18, .bool false]) h_193
                      else
                        IdxA data0a data0l s18 1 fun a191 =>
                        Ld h_180 a191 fun v110 => DS v110 fun x125 =>
                        IdxA data0a data0l s16 1 fun a192 =>
                        Ld h_180 a192 fun v111 => DS v111 fun x126 =>
                        IdxA data0a data0l s16 1 fun a193 =>
                        StC h_180 (a193.add 0) (.string x125) fun h_195 =>
                        (SameV (some (.slice data0a data0l data0c)) (.slice data0a data0l data0c)) ∧
                        (SameV (some (.int .i64 s18)) (.int .i64 s18)) ∧
                        IdxA data0a data0l s18 1 fun a194 =>
                        StC h_195 (a194.add 0) (.string x126) fun h_197 =>
                        again15 (IntKind.wrap .i64 (s16 + 1), IntKind.wrap .i64 (s18 - 1)) h_197))) s15.2 h_160)) s15.1 h_159) (IntKind.wrap .i64 (s0 + 1), IntKind.wrap .i64 (s10 - 1)) h_158))) (IntKind.wrap .i64 (b0 - 1)) h_4)) (IntKind.wrap .i64 (a0 + 1)) h_3
theorem F153_eq : (fun (data0a : Option Addr) (data0l : Nat) (data0c : Nat) (a0 : Int) (b0 : Int) (pivot0 : Int) (h : Heap) (Q : Value → Heap → Prop) => fnPT Try.prog Try.f153 (fun i => bif Nat.beq i 0 then annOne 10 (codI .i64) else bif Nat.beq i 2 then annOne 11 (codI .i64) else bif Nat.beq i 4 then annCons 10 (codI .i64) (annOne 11 (codI .i64)) else bif Nat.beq i 6 then annOne 10 (codI .i64) else bif Nat.beq i 8 then annOne 11 (codI .i64) else annNil) (fun _ => []) (fun i => bif Nat.beq i 1 then some ⟨[0, 0, 0, 0, 0, 0, 48, 112, 0, 0, 768, 1792, 4083, 8179, 16383, 32767], 40960⟩ else bif Nat.beq i 8 then some ⟨[0, 0, 0, 0, 0, 0, 48, 112, 0, 0, 768, 1792, 4083, 8179, 16383, 32767], 40960⟩ else bif Nat.beq i 10 then some ⟨[0, 0, 0, 0, 0, 0, 48, 112, 0, 0, 768, 1792, 4083, 8179, 16383, 32767], 40960⟩ else bif Nat.beq i 21 then some ⟨[0, 0, 0, 0, 0, 0, 48, 112, 0, 0, 768, 1792, 4083, 8179, 16383, 32767], 40960⟩ else bif Nat.beq i 18 then some ⟨[0, 0, 0, 0, 0, 0, 48, 112, 0, 0, 768, 1792, 4083, 8179, 16383, 32767], 40960⟩ else none) [.slice data0a data0l data0c, .int .i64 a0, .int .i64 b0, .int .i64 pivot0] h Q) = F153 := by kernel_rfl
theorem F153_ok {data0a : Option Addr} {data0l : Nat} {data0c : Nat} {a0 : Int} {b0 : Int} {pivot0 : Int} {h : Heap} {Q : Value → Heap → Prop} (H : F153 data0a data0l data0c a0 b0 pivot0 h Q) : CallsH Try.prog 153 [.slice data0a data0l data0c, .int .i64 a0, .int .i64 b0, .int .i64 pivot0] h Q :=
  callsH_of (ann := fun i => bif Nat.beq i 0 then annOne 10 (codI .i64) else bif Nat.beq i 2 then annOne 11 (codI .i64) else bif Nat.beq i 4 then annCons 10 (codI .i64) (annOne 11 (codI .i64)) else bif Nat.beq i 6 then annOne 10 (codI .i64) else bif Nat.beq i 8 then annOne 11 (codI .i64) else annNil) (tys := fun _ => []) (pl := fun i => bif Nat.beq i 1 then some ⟨[0, 0, 0, 0, 0, 0, 48, 112, 0, 0, 768, 1792, 4083, 8179, 16383, 32767], 40960⟩ else bif Nat.beq i 8 then some ⟨[0, 0, 0, 0, 0, 0, 48, 112, 0, 0, 768, 1792, 4083, 8179, 16383, 32767], 40960⟩ else bif Nat.beq i 10 then some ⟨[0, 0, 0, 0, 0, 0, 48, 112, 0, 0, 768, 1792, 4083, 8179, 16383, 32767], 40960⟩ else bif Nat.beq i 21 then some ⟨[0, 0, 0, 0, 0, 0, 48, 112, 0, 0, 768, 1792, 4083, 8179, 16383, 32767], 40960⟩ else bif Nat.beq i 18 then some ⟨[0, 0, 0, 0, 0, 0, 48, 112, 0, 0, 768, 1792, 4083, 8179, 16383, 32767], 40960⟩ else none) Try.func153 (by kernel_rfl) (by have e := F153_eq; exact (congrFun (congrFun (congrFun (congrFun (congrFun (congrFun (congrFun (congrFun (e) data0a) data0l) data0c) a0) b0) pivot0) h) Q).symm ▸ H)

/-- math/bits.Len32 -/
def F154 (x0 : Int) (h : Heap) (Q : Value → Heap → Prop) : Prop :=
  (bif decide ((x0 : Int) ≥ 65536) then
    0 ≤ (16 : Int) ∧
    (bif decide (((shrI .u32 x0 16) : Int) ≥ 256) then
      0 ≤ (8 : Int) ∧
      0 ≤ (IntKind.wrap .u8 (shrI .u32 (shrI .u32 x0 16) 8) : Int) ∧ (IntKind.wrap .u8 (shrI .u32 (shrI .u32 x0 16) 8) : Int) < ((⟨#[0, 1, 2, 2, 3, 3, 3, 3, 4, 4, 4, 4, 4, 4, 4, 4, 5, 5, 5, 5, 5, 5, 5, 5, 5, 5, 5, 5, 5, 5, 5, 5, 6, 6, 6, 6, 6, 6, 6, 6, 6, 6, 6, 6, 6, 6, 6, 6, 6, 6, 6, 6, 6, 6, 6, 6, 6, 6, 6, 6, 6, 6, 6, 6, 7, 7, 7, 7, 7, 7, 7, 7, 7, 7, 7, 7, 7, 7, 7, 7, 7, 7, 7, 7, 7, 7, 7, 7, 7, 7, 7, 7, 7, 7, 7, 7, 7, 7, 7, 7, 7, 7, 7, 7, 7, 7, 7, 7, 7, 7, 7, 7, 7, 7, 7, 7, 7, 7, 7, 7, 7, 7, 7, 7, 7, 7, 7, 7, 8, 8, 8, 8, 8, 8, 8, 8, 8, 8, 8, 8, 8, 8, 8, 8, 8, 8, 8, 8, 8, 8, 8, 8, 8, 8, 8, 8, 8, 8, 8, 8, 8, 8, 8, 8, 8, 8, 8, 8, 8, 8, 8, 8, 8, 8, 8, 8, 8, 8, 8, 8, 8, 8, 8, 8, 8, 8, 8, 8, 8, 8, 8, 8, 8, 8, 8, 8, 8, 8, 8, 8, 8, 8, 8, 8, 8, 8, 8, 8, 8, 8, 8, 8, 8, 8, 8, 8, 8, 8, 8, 8, 8, 8, 8, 8, 8, 8, 8, 8, 8, 8, 8, 8, 8, 8, 8, 8, 8, 8, 8, 8, 8, 8, 8, 8, 8, 8, 8, 8, 8, 8, 8, 8, 8, 8, 8, 8]⟩ : ByteArray).size : Int) ∧
      Q (.int .i64 (IntKind.wrap .i64 ((IntKind.wrap .i64 (16 + 8)) + (IntKind.wrap .i64 (bt ⟨#[0, 1, 2, 2, 3, 3, 3, 3, 4, 4, 4, 4, 4, 4, 4, 4, 5, 5, 5, 5, 5, 5, 5, 5, 5, 5, 5, 5, 5, 5, 5, 5, 6, 6, 6, 6, 6, 6, 6, 6, 6, 6, 6, 6, 6, 6, 6, 6, 6, 6, 6, 6, 6, 6, 6, 6, 6, 6, 6, 6, 6, 6, 6, 6, 7, 7, 7, 7, 7, 7, 7, 7, 7, 7, 7, 7, 7, 7, 7, 7, 7, 7, 7, 7, 7, 7, 7, 7, 7, 7, 7, 7, 7, 7, 7, 7, 7, 7, 7, 7, 7, 7, 7, 7, 7, 7, 7, 7, 7, 7, 7, 7, 7, 7, 7, 7, 7, 7, 7, 7, 7, 7, 7, 7, 7, 7, 7, 7, 8, 8, 8, 8, 8, 8, 8, 8, 8, 8, 8, 8, 8, 8, 8, 8, 8, 8, 8, 8, 8, 8, 8, 8, 8, 8, 8, 8, 8, 8, 8, 8, 8, 8, 8, 8, 8, 8, 8, 8, 8, 8, 8, 8, 8, 8, 8, 8, 8, 8, 8, 8, 8, 8, 8, 8, 8, 8, 8, 8, 8, 8, 8, 8, 8, 8, 8, 8, 8, 8, 8, 8, 8, 8, 8, 8, 8, 8, 8, 8, 8, 8, 8, 8, 8, 8, 8, 8, 8, 8, 8, 8, 8, 8, 8, 8, 8, 8, 8, 8, 8, 8, 8, 8, 8, 8, 8, 8, 8, 8, 8, 8, 8, 8, 8, 8, 8, 8, 8, 8, 8, 8, 8, 8, 8, 8, 8, 8]⟩ (IntKind.wrap .u8 (shrI .u32 (shrI .u32 x0 16) 8))))))) h
    else
      0 ≤ (IntKind.wrap .u8 (shrI .u32 x0 16) : Int) ∧ (IntKind.wrap .u8 (shrI .u32 x0 16) : Int) < ((⟨#[0, 1, 2, 2, 3, 3, 3, 3, 4, 4, 4, 4, 4, 4, 4, 4, 5, 5, 5, 5, 5, 5, 5, 5, 5, 5, 5, 5, 5, 5, 5, 5, 6, 6, 6, 6, 6, 6, 6, 6, 6, 6, 6, 6, 6, 6, 6, 6, 6, 6, 6, 6, 6, 6, 6, 6, 6, 6, 6, 6, 6, 6, 6, 6, 7, 7, 7, 7, 7, 7, 7, 7, 7, 7, 7, 7, 7, 7, 7, 7, 7, 7, 7, 7, 7, 7, 7, 7, 7, 7, 7, 7, 7, 7, 7, 7, 7, 7, 7, 7, 7, 7, 7, 7, 7, 7, 7, 7, 7, 7, 7, 7, 7, 7, 7, 7, 7, 7, 7, 7, 7, 7, 7, 7, 7, 7, 7, 7, 8, 8, 8, 8, 8, 8, 8, 8, 8, 8, 8, 8, 8, 8, 8, 8, 8, 8, 8, 8, 8, 8, 8, 8, 8, 8, 8, 8, 8, 8, 8, 8, 8, 8, 8, 8, 8, 8, 8, 8, 8, 8, 8, 8, 8, 8, 8, 8, 8, 8, 8, 8, 8, 8, 8, 8, 8, 8, 8, 8, 8, 8, 8, 8, 8, 8, 8, 8, 8, 8, 8, 8, 8, 8, 8, 8, 8, 8, 8, 8, 8, 8, 8, 8, 8, 8, 8, 8, 8, 8, 8, 8, 8, 8, 8, 8, 8, 8, 8, 8, 8, 8, 8, 8, 8, 8, 8, 8, 8, 8, 8, 8, 8, 8, 8, 8, 8, 8, 8, 8, 8, 8, 8, 8, 8, 8, 8, 8]⟩ : ByteArray).size : Int) ∧
      Q (.int .i64 (IntKind.wrap .i64 (16 + (IntKind.wrap .i64 (bt ⟨#[0, 1, 2, 2, 3, 3, 3, 3, 4, 4, 4, 4, 4, 4, 4, 4, 5, 5, 5, 5, 5, 5, 5, 5, 5, 5, 5, 5, 5, 5, 5, 5, 6, 6, 6, 6, 6, 6, 6, 6, 6, 6, 6, 6, 6, 6, 6, 6, 6, 6, 6, 6, 6, 6, 6, 6, 6, 6, 6, 6, 6, 6, 6, 6, 7, 7, 7, 7, 7, 7, 7, 7, 7, 7, 7, 7, 7, 7, 7, 7, 7, 7, 7, 7, 7, 7, 7, 7, 7, 7, 7, 7, 7, 7, 7, 7, 7, 7, 7, 7, 7, 7, 7, 7, 7, 7, 7, 7, 7, 7, 7, 7, 7, 7, 7, 7, 7, 7, 7, 7, 7, 7, 7, 7, 7, 7, 7, 7, 8, 8, 8, 8, 8, 8, 8, 8, 8, 8, 8, 8, 8, 8, 8, 8, 8, 8, 8, 8, 8, 8, 8, 8, 8, 8, 8, 8, 8, 8, 8, 8, 8, 8, 8, 8, 8, 8, 8, 8, 8, 8, 8, 8, 8, 8, 8, 8, 8, 8, 8, 8, 8, 8, 8, 8, 8, 8, 8, 8, 8, 8, 8, 8, 8, 8, 8, 8, 8, 8, 8, 8, 8, 8, 8, 8, 8, 8, 8, 8, 8, 8, 8, 8, 8, 8, 8, 8, 8, 8, 8, 8, 8, 8, 8, 8, 8, 8, 8, 8, 8, 8, 8, 8, 8, 8, 8, 8, 8, 8, 8, 8, 8, 8, 8, 8, 8, 8, 8, 8, 8, 8, 8, 8, 8, 8, 8, 8]⟩ (IntKind.wrap .u8 (shrI .u32 x0 16))))))) h)
  else
    (bif decide ((x0 : Int) ≥ 256) then
      0 ≤ (8 : Int) ∧
      0 ≤ (IntKind.wrap .u8 (shrI .u32 x0 8) : Int) ∧ (IntKind.wrap .u8 (shrI .u32 x0 8) : Int) < ((⟨#[0, 1, 2, 2, 3, 3, 3, 3, 4, 4, 4, 4, 4, 4, 4, 4, 5, 5, 5, 5, 5, 5, 5, 5, 5, 5, 5, 5, 5, 5, 5, 5, 6, 6, 6, 6, 6, 6, 6, 6, 6, 6, 6, 6, 6, 6, 6, 6, 6, 6, 6, 6, 6, 6, 6, 6, 6, 6, 6, 6, 6, 6, 6, 6, 7, 7, 7, 7, 7, 7, 7, 7, 7, 7, 7, 7, 7, 7, 7, 7, 7, 7, 7, 7, 7, 7, 7, 7, 7, 7, 7, 7, 7, 7, 7, 7, 7, 7, 7, 7, 7, 7, 7, 7, 7, 7, 7, 7, 7, 7, 7, 7, 7, 7, 7, 7, 7, 7, 7, 7, 7, 7, 7, 7, 7, 7, 7, 7, 8, 8, 8, 8, 8, 8, 8, 8, 8, 8, 8, 8, 8, 8, 8, 8, 8, 8, 8, 8, 8, 8, 8, 8, 8, 8, 8, 8, 8, 8, 8, 8, 8, 8, 8, 8, 8, 8, 8, 8, 8, 8, 8, 8, 8, 8, 8, 8, 8, 8, 8, 8, 8, 8, 8, 8, 8, 8, 8, 8, 8, 8, 8, 8, 8, 8, 8, 8, 8, 8, 8, 8, 8, 8, 8, 8, 8, 8, 8, 8, 8, 8, 8, 8, 8, 8, 8, 8, 8, 8, 8, 8, 8, 8, 8, 8, 8, 8, 8, 8, 8, 8, 8, 8, 8, 8, 8, 8, 8, 8, 8, 8, 8, 8, 8, 8, 8, 8, 8, 8, 8, 8, 8, 8, 8, 8, 8, 8]⟩ : ByteArray).size : Int) ∧
      Q (.int .i64 (IntKind.wrap .i64 ((IntKind.wrap .i64 (0 + 8)) + (IntKind.wrap .i64 (bt ⟨#[0, 1, 2, 2, 3, 3, 3, 3, 4, 4, 4, 4, 4, 4, 4, 4, 5, 5, 5, 5, 5, 5, 5, 5, 5, 5, 5, 5, 5, 5, 5, 5, 6, 6, 6, 6, 6, 6, 6, 6, 6, 6, 6, 6, 6, 6, 6, 6, 6, 6, 6, 6, 6, 6, 6, 6, 6, 6, 6, 6, 6, 6, 6, 6, 7, 7, 7, 7, 7, 7, 7, 7, 7, 7, 7, 7, 7, 7, 7, 7, 7, 7, 7, 7, 7, 7, 7, 7, 7, 7, 7, 7, 7, 7, 7, 7, 7, 7, 7, 7, 7, 7, 7, 7, 7, 7, 7, 7, 7, 7, 7, 7, 7, 7, 7, 7, 7, 7, 7, 7, 7, 7, 7, 7, 7, 7, 7, 7, 8, 8, 8, 8, 8, 8, 8, 8, 8, 8, 8, 8, 8, 8, 8, 8, 8, 8, 8, 8, 8, 8, 8, 8, 8, 8, 8, 8, 8, 8, 8, 8, 8, 8, 8, 8, 8, 8, 8, 8, 8, 8, 8, 8, 8, 8, 8, 8, 8, 8, 8, 8, 8, 8, 8, 8, 8, 8, 8, 8, 8, 8, 8, 8, 8, 8, 8, 8, 8, 8, 8, 8, 8, 8, 8, 8, 8, 8, 8, 8, 8, 8, 8, 8, 8, 8, 8, 8, 8, 8, 8, 8, 8, 8, 8, 8, 8, 8, 8, 8, 8, 8, 8, 8, 8, 8, 8, 8, 8, 8, 8, 8, 8, 8, 8, 8, 8, 8, 8, 8, 8, 8, 8, 8, 8, 8, 8, 8]⟩ (IntKind.wrap .u8 (shrI .u32 x0 8))))))) h
    else
      0 ≤ (IntKind.wrap .u8 x0 : Int) ∧ (IntKind.wrap .u8 x0 : Int) < ((⟨#[0, 1, 2, 2, 3, 3, 3, 3, 4, 4, 4, 4, 4, 4, 4, 4, 5, 5, 5, 5, 5, 5, 5, 5, 5, 5, 5, 5, 5, 5, 5, 5, 6, 6, 6, 6, 6, 6, 6, 6, 6, 6, 6, 6, 6, 6, 6, 6, 6, 6, 6, 6, 6, 6, 6, 6, 6, 6, 6, 6, 6, 6, 6, 6, 7, 7, 7, 7, 7, 7, 7, 7, 7, 7, 7, 7, 7, 7, 7, 7, 7, 7, 7, 7, 7, 7, 7, 7, 7, 7, 7, 7, 7, 7, 7, 7, 7, 7, 7, 7, 7, 7, 7, 7, 7, 7, 7, 7, 7, 7, 7, 7, 7, 7, 7, 7, 7, 7, 7, 7, 7, 7, 7, 7, 7, 7, 7, 7, 8, 8, 8, 8, 8, 8, 8, 8, 8, 8, 8, 8, 8, 8, 8, 8, 8, 8, 8, 8, 8, 8, 8, 8, 8, 8, 8, 8, 8, 8, 8, 8, 8, 8, 8, 8, 8, 8, 8, 8, 8, 8, 8, 8, 8, 8, 8, 8, 8, 8, 8, 8, 8, 8, 8, 8, 8, 8, 8, 8, 8, 8, 8, 8, 8, 8, 8, 8, 8, 8, 8, 8, 8, 8, 8, 8, 8, 8, 8, 8, 8, 8, 8, 8, 8, 8, 8, 8, 8, 8, 8, 8, 8, 8, 8, 8, 8, 8, 8, 8, 8, 8, 8, 8, 8, 8, 8, 8, 8, 8, 8, 8, 8, 8, 8, 8, 8, 8, 8, 8, 8, 8, 8, 8, 8, 8, 8, 8]⟩ : ByteArray).size : Int) ∧
      Q (.int .i64 (IntKind.wrap .i64 (0 + (IntKind.wrap .i64 (bt ⟨#[0, 1, 2, 2, 3, 3, 3, 3, 4, 4, 4, 4, 4, 4, 4, 4, 5, 5, 5, 5, 5, 5, 5, 5, 5, 5, 5, 5, 5, 5, 5, 5, 6, 6, 6, 6, 6, 6, 6, 6, 6, 6, 6, 6, 6, 6, 6, 6, 6, 6, 6, 6, 6, 6, 6, 6, 6, 6, 6, 6, 6, 6, 6, 6, 7, 7, 7, 7, 7, 7, 7, 7, 7, 7, 7, 7, 7, 7, 7, 7, 7, 7, 7, 7, 7, 7, 7, 7, 7, 7, 7, 7, 7, 7, 7, 7, 7, 7, 7, 7, 7, 7, 7, 7, 7, 7, 7, 7, 7, 7, 7, 7, 7, 7, 7, 7, 7, 7, 7, 7, 7, 7, 7, 7, 7, 7, 7, 7, 8, 8, 8, 8, 8, 8, 8, 8, 8, 8, 8, 8, 8, 8, 8, 8, 8, 8, 8, 8, 8, 8, 8, 8, 8, 8, 8, 8, 8, 8, 8, 8, 8, 8, 8, 8, 8, 8, 8, 8, 8, 8, 8, 8, 8, 8, 8, 8, 8, 8, 8, 8, 8, 8, 8, 8, 8, 8, 8, 8, 8, 8, 8, 8, 8, 8, 8, 8, 8, 8, 8, 8, 8, 8, 8, 8, 8, 8, 8, 8, 8, 8, 8, 8, 8, 8, 8, 8, 8, 8, 8, 8, 8, 8, 8, 8, 8, 8, 8, 8, 8, 8, 8, 8, 8, 8, 8, 8, 8, 8, 8, 8, 8, 8, 8, 8, 8, 8, 8, 8, 8, 8, 8, 8, 8, 8, 8, 8]⟩ (IntKind.wrap .u8 x0)))))) h))
theorem F154_eq : (fun (x0 : Int) (h : Heap) (Q : Value → Heap → Prop) => fnPT Try.prog Try.f154 (fun _ => annNil) (fun _ => []) (fun _ => none) [.int .u32 x0] h Q) = F154 := by kernel_rfl
theorem F154_ok {x0 : Int} {h : Heap} {Q : Value → Heap → Prop} (H : F154 x0 h Q) : CallsH Try.prog 154 [.int .u32 x0] h Q :=
  callsH_of (ann := fun _ => annNil) (tys := fun _ => []) (pl := fun _ => none) Try.func154 (by kernel_rfl) (by have e := F154_eq; exact (congrFun (congrFun (congrFun (e) x0) h) Q).symm ▸ H)

/-- math/bits.Len64 -/
def F155 (x0 : Int) (h : Heap) (Q : Value → Heap → Prop) : Prop :=
  (bif decide ((x0 : Int) ≥ 4294967296) then
    0 ≤ (32 : Int) ∧
    (bif decide (((shrI .u64 x0 32) : Int) ≥ 65536) then
      0 ≤ (16 : Int) ∧
      (bif decide (((shrI .u64 (shrI .u64 x0 32) 16) : Int) ≥ 256) then
        0 ≤ (8 : Int) ∧
        0 ≤ (IntKind.wrap .u8 (shrI .u64 (shrI .u64 (shrI .u64 x0 32) 16) 8) : Int) ∧ (IntKind.wrap .u8 (shrI .u64 (shrI .u64 (shrI .u64 x0 32) 16) 8) : Int) < ((⟨#[0, 1, 2, 2, 3, 3, 3, 3, 4, 4, 4, 4, 4, 4, 4, 4, 5, 5, 5, 5, 5, 5, 5, 5, 5, 5, 5, 5, 5, 5, 5, 5, 6, 6, 6, 6, 6, 6, 6, 6, 6, 6, 6, 6, 6, 6, 6, 6, 6, 6, 6, 6, 6, 6, 6, 6, 6, 6, 6, 6, 6, 6, 6, 6, 7, 7, 7, 7, 7, 7, 7, 7, 7, 7, 7, 7, 7, 7, 7, 7, 7, 7, 7, 7, 7, 7, 7, 7, 7, 7, 7, 7, 7, 7, 7, 7, 7, 7, 7, 7, 7, 7, 7, 7, 7, 7, 7, 7, 7, 7, 7, 7, 7, 7, 7, 7, 7, 7, 7, 7, 7, 7, 7, 7, 7, 7, 7, 7, 8, 8, 8, 8, 8, 8, 8, 8, 8, 8, 8, 8, 8, 8, 8, 8, 8, 8, 8, 8, 8, 8, 8, 8, 8, 8, 8, 8, 8, 8, 8, 8, 8, 8, 8, 8, 8, 8, 8, 8, 8, 8, 8, 8, 8, 8, 8, 8, 8, 8, 8, 8, 8, 8, 8, 8, 8, 8, 8, 8, 8, 8, 8, 8, 8, 8, 8, 8, 8, 8, 8, 8, 8, 8, 8, 8, 8, 8, 8, 8, 8, 8, 8, 8, 8, 8, 8, 8, 8, 8, 8, 8, 8, 8, 8, 8, 8, 8, 8, 8, 8, 8, 8, 8, 8, 8, 8, 8, 8, 8, 8, 8, 8, 8, 8, 8, 8, 8, 8, 8, 8, 8, 8, 8, 8, 8, 8, 8]⟩ : ByteArray).size : Int) ∧
        Q (.int .i64 (IntKind.wrap .i64 ((IntKind.wrap .i64 ((IntKind.wrap .i64 (32 + 16)) + 8)) + (IntKind.wrap .i64 (bt ⟨#[0, 1, 2, 2, 3, 3, 3, 3, 4, 4, 4, 4, 4, 4, 4, 4, 5, 5, 5, 5, 5, 5, 5, 5, 5, 5, 5, 5, 5, 5, 5, 5, 6, 6, 6, 6, 6, 6, 6, 6, 6, 6, 6, 6, 6, 6, 6, 6, 6, 6, 6, 6, 6, 6, 6, 6, 6, 6, 6, 6, 6, 6, 6, 6, 7, 7, 7, 7, 7, 7, 7, 7, 7, 7, 7, 7, 7, 7, 7, 7, 7, 7, 7, 7, 7, 7, 7, 7, 7, 7, 7, 7, 7, 7, 7, 7, 7, 7, 7, 7, 7, 7, 7, 7, 7, 7, 7, 7, 7, 7, 7, 7, 7, 7, 7, 7, 7, 7, 7, 7, 7, 7, 7, 7, 7, 7, 7, 7, 8, 8, 8, 8, 8, 8, 8, 8, 8, 8, 8, 8, 8, 8, 8, 8, 8, 8, 8, 8, 8, 8, 8, 8, 8, 8, 8, 8, 8, 8, 8, 8, 8, 8, 8, 8, 8, 8, 8, 8, 8, 8, 8, 8, 8, 8, 8, 8, 8, 8, 8, 8, 8, 8, 8, 8, 8, 8, 8, 8, 8, 8, 8, 8, 8, 8, 8, 8, 8, 8, 8, 8, 8, 8, 8, 8, 8, 8, 8, 8, 8, 8, 8, 8, 8, 8, 8, 8, 8, 8, 8, 8, 8, 8, 8, 8, 8, 8, 8, 8, 8, 8, 8, 8, 8, 8, 8, 8, 8, 8, 8, 8, 8, 8, 8, 8, 8, 8, 8, 8, 8, 8, 8, 8, 8, 8, 8, 8]⟩ (IntKind.wrap .u8 (shrI .u64 (shrI .u64 (shrI .u64 x0 32) 16) 8))))))) h
      else
        0 ≤ (IntKind.wrap .u8 (shrI .u64 (shrI .u64 x0 32) 16) : Int) ∧ (IntKind.wrap .u8 (shrI .u64 (shrI .u64 x0 32) 16) : Int) < ((⟨#[0, 1, 2, 2, 3, 3, 3, 3, 4, 4, 4, 4, 4, 4, 4, 4, 5, 5, 5, 5, 5, 5, 5, 5, 5, 5, 5, 5, 5, 5, 5, 5, 6, 6, 6, 6, 6, 6, 6, 6, 6, 6, 6, 6, 6, 6, 6, 6, 6, 6, 6, 6, 6, 6, 6, 6, 6, 6, 6, 6, 6, 6, 6, 6, 7, 7, 7, 7, 7, 7, 7, 7, 7, 7, 7, 7, 7, 7, 7, 7, 7, 7, 7, 7, 7, 7, 7, 7, 7, 7, 7, 7, 7, 7, 7, 7, 7, 7, 7, 7, 7, 7, 7, 7, 7, 7, 7, 7, 7, 7, 7, 7, 7, 7, 7, 7, 7, 7, 7, 7, 7, 7, 7, 7, 7, 7, 7, 7, 8, 8, 8, 8, 8, 8, 8, 8, 8, 8, 8, 8, 8, 8, 8, 8, 8, 8, 8, 8, 8, 8, 8, 8, 8, 8, 8, 8, 8, 8, 8, 8, 8, 8, 8, 8, 8, 8, 8, 8, 8, 8, 8, 8, 8, 8, 8, 8, 8, 8, 8, 8, 8, 8, 8, 8, 8, 8, 8, 8, 8, 8, 8, 8, 8, 8, 8, 8, 8, 8, 8, 8, 8, 8, 8, 8, 8, 8, 8, 8, 8, 8, 8, 8, 8, 8, 8, 8, 8, 8, 8, 8, 8, 8, 8, 8, 8, 8, 8, 8, 8, 8, 8, 8, 8, 8, 8, 8, 8, 8, 8, 8, 8, 8, 8, 8, 8, 8, 8, 8, 8, 8, 8, 8, 8, 8, 8, 8]⟩ : ByteArray).size : Int) ∧
        Q (.int .i64 (IntKind.wrap .i64 ((IntKind.wrap .i64 (32 + 16)) + (IntKind.wrap .i64 (bt ⟨#[0, 1, 2, 2, 3, 3, 3, 3, 4, 4, 4, 4, 4, 4, 4, 4, 5, 5, 5, 5, 5, 5, 5, 5, 5, 5, 5, 5, 5, 5, 5, 5, 6, 6, 6, 6, 6, 6, 6, 6, 6, 6, 6, 6, 6, 6, 6, 6, 6, 6, 6, 6, 6, 6, 6, 6, 6, 6, 6, 6, 6, 6, 6, 6, 7, 7, 7, 7, 7, 7, 7, 7, 7, 7, 7, 7, 7, 7, 7, 7, 7, 7, 7, 7, 7, 7, 7, 7, 7, 7, 7, 7, 7, 7, 7, 7, 7, 7, 7, 7, 7, 7, 7, 7, 7, 7, 7, 7, 7, 7, 7, 7, 7, 7, 7, 7, 7, 7, 7, 7, 7, 7, 7, 7, 7, 7, 7, 7, 8, 8, 8, 8, 8, 8, 8, 8, 8, 8, 8, 8, 8, 8, 8, 8, 8, 8, 8, 8, 8, 8, 8, 8, 8, 8, 8, 8, 8, 8, 8, 8, 8, 8, 8, 8, 8, 8, 8, 8, 8, 8, 8, 8, 8, 8, 8, 8, 8, 8, 8, 8, 8, 8, 8, 8, 8, 8, 8, 8, 8, 8, 8, 8, 8, 8, 8, 8, 8, 8, 8, 8, 8, 8, 8, 8, 8, 8, 8, 8, 8, 8, 8, 8, 8, 8, 8, 8, 8, 8, 8, 8, 8, 8, 8, 8, 8, 8, 8, 8, 8, 8, 8, 8, 8, 8, 8, 8, 8, 8, 8, 8, 8, 8, 8, 8, 8, 8, 8, 8, 8, 8, 8, 8, 8, 8, 8, 8]⟩ (IntKind.wrap .u8 (shrI .u64 (shrI .u64 x0 32) 16))))))) h)
    else
      (bif decide (((shrI .u64 x0 32) : Int) ≥ 256) then
        0 ≤ (8 : Int) ∧
        0 ≤ (IntKind.wrap .u8 (shrI .u64 (shrI .u64 x0 32) 8) : Int) ∧ (IntKind.wrap .u8 (shrI .u64 (shrI .u64 x0 32) 8) : Int) < ((⟨#[0, 1, 2, 2, 3, 3, 3, 3, 4, 4, 4, 4, 4, 4, 4, 4, 5, 5, 5, 5, 5, 5, 5, 5, 5, 5, 5, 5, 5, 5, 5, 5, 6, 6, 6, 6, 6, 6, 6, 6, 6, 6, 6, 6, 6, 6, 6, 6, 6, 6, 6, 6, 6, 6, 6, 6, 6, 6, 6, 6, 6, 6, 6, 6, 7, 7, 7, 7, 7, 7, 7, 7, 7, 7, 7, 7, 7, 7, 7, 7, 7, 7, 7, 7, 7, 7, 7, 7, 7, 7, 7, 7, 7, 7, 7, 7, 7, 7, 7, 7, 7, 7, 7, 7, 7, 7, 7, 7, 7, 7, 7, 7, 7, 7, 7, 7, 7, 7, 7, 7, 7, 7, 7, 7, 7, 7, 7, 7, 8, 8, 8, 8, 8, 8, 8, 8, 8, 8, 8, 8, 8, 8, 8, 8, 8, 8, 8, 8, 8, 8, 8, 8, 8, 8, 8, 8, 8, 8, 8, 8, 8, 8, 8, 8, 8, 8, 8, 8, 8, 8, 8, 8, 8, 8, 8, 8, 8, 8, 8, 8, 8, 8, 8, 8, 8, 8, 8, 8, 8, 8, 8, 8, 8, 8, 8, 8, 8, 8, 8, 8, 8, 8, 8, 8, 8, 8, 8, 8, 8, 8, 8, 8, 8, 8, 8, 8, 8, 8, 8, 8, 8, 8, 8, 8, 8, 8, 8, 8, 8, 8, 8, 8, 8, 8, 8, 8, 8, 8, 8, 8, 8, 8, 8, 8, 8, 8, 8, 8, 8, 8, 8, 8, 8, 8, 8, 8]⟩ : ByteArray).size : Int) ∧
        Q (.int .i64 (IntKind.wrap .i64 ((IntKind.wrap .i64 (32 + 8)) + (IntKind.wrap .i64 (bt ⟨#[0, 1, 2, 2, 3, 3, 3, 3, 4, 4, 4, 4, 4, 4, 4, 4, 5, 5, 5, 5, 5, 5, 5, 5, 5, 5, 5, 5, 5, 5, 5, 5, 6, 6, 6, 6, 6, 6, 6, 6, 6, 6, 6, 6, 6, 6, 6, 6, 6, 6, 6, 6, 6, 6, 6, 6, 6, 6, 6, 6, 6, 6, 6, 6, 7, 7, 7, 7, 7, 7, 7, 7, 7, 7, 7, 7, 7, 7, 7, 7, 7, 7, 7, 7, 7, 7, 7, 7, 7, 7, 7, 7, 7, 7, 7, 7, 7, 7, 7, 7, 7, 7, 7, 7, 7, 7, 7, 7, 7, 7, 7, 7, 7, 7, 7, 7, 7, 7, 7, 7, 7, 7, 7, 7, 7, 7, 7, 7, 8, 8, 8, 8, 8, 8, 8, 8, 8, 8, 8, 8, 8, 8, 8, 8, 8, 8, 8, 8, 8, 8, 8, 8, 8, 8, 8, 8, 8, 8, 8, 8, 8, 8, 8, 8, 8, 8, 8, 8, 8, 8, 8, 8, 8, 8, 8, 8, 8, 8, 8, 8, 8, 8, 8, 8, 8, 8, 8, 8, 8, 8, 8, 8, 8, 8, 8, 8, 8, 8, 8, 8, 8, 8, 8, 8, 8, 8, 8, 8, 8, 8, 8, 8, 8, 8, 8, 8, 8, 8, 8, 8, 8, 8, 8, 8, 8, 8, 8, 8, 8, 8, 8, 8, 8, 8, 8, 8, 8, 8, 8, 8, 8, 8, 8, 8, 8, 8, 8, 8, 8, 8, 8, 8, 8, 8, 8, 8]⟩ (IntKind.wrap .u8 (shrI .u64 (shrI .u64 x0 32) 8))))))) h
      else
        0 ≤ (IntKind.wrap .u8 (shrI .u64 x0 32) : Int) ∧ (IntKind.wrap .u8 (shrI .u64 x0 32) : Int) < ((⟨#[0, 1, 2, 2, 3, 3, 3, 3, 4, 4, 4, 4, 4, 4, 4, 4, 5, 5, 5, 5, 5, 5, 5, 5, 5, 5, 5, 5, 5, 5, 5, 5, 6, 6, 6, 6, 6, 6, 6, 6, 6, 6, 6, 6, 6, 6, 6, 6, 6, 6, 6, 6, 6, 6, 6, 6, 6, 6, 6, 6, 6, 6, 6, 6, 7, 7, 7, 7, 7, 7, 7, 7, 7, 7, 7, 7, 7, 7, 7, 7, 7, 7, 7, 7, 7, 7, 7, 7, 7, 7, 7, 7, 7, 7, 7, 7, 7, 7, 7, 7, 7, 7, 7, 7, 7, 7, 7, 7, 7, 7, 7, 7, 7, 7, 7, 7, 7, 7, 7, 7, 7, 7, 7, 7, 7, 7, 7, 7, 8, 8, 8, 8, 8, 8, 8, 8, 8, 8, 8, 8, 8, 8, 8, 8, 8, 8, 8, 8, 8, 8, 8, 8, 8, 8, 8, 8, 8, 8, 8, 8, 8, 8, 8, 8, 8, 8, 8, 8, 8, 8, 8, 8, 8, 8, 8, 8, 8, 8, 8, 8, 8, 8, 8, 8, 8, 8, 8, 8, 8, 8, 8, 8, 8, 8, 8, 8, 8, 8, 8, 8, 8, 8, 8, 8, 8, 8, 8, 8, 8, 8, 8, 8, 8, 8, 8, 8, 8, 8, 8, 8, 8, 8, 8, 8, 8, 8, 8, 8, 8, 8, 8, 8, 8, 8, 8, 8, 8, 8, 8, 8, 8, 8, 8, 8, 8, 8, 8, 8, 8, 8, 8, 8, 8, 8, 8, 8]⟩ : ByteArray).size : Int) ∧
        Q (.int .i64 (IntKind.wrap .i64 (32 + (IntKind.wrap .i64 (bt ⟨#[0, 1, 2, 2, 3, 3, 3, 3, 4, 4, 4, 4, 4, 4, 4, 4, 5, 5, 5, 5, 5, 5, 5, 5, 5, 5, 5, 5, 5, 5, 5, 5, 6, 6, 6, 6, 6, 6, 6, 6, 6, 6, 6, 6, 6, 6, 6, 6, 6, 6, 6, 6, 6, 6, 6, 6, 6, 6, 6, 6, 6, 6, 6, 6, 7, 7, 7, 7, 7, 7, 7, 7, 7, 7, 7, 7, 7, 7, 7, 7, 7, 7, 7, 7, 7, 7, 7, 7, 7, 7, 7, 7, 7, 7, 7, 7, 7, 7, 7, 7, 7, 7, 7, 7, 7, 7, 7, 7, 7, 7, 7, 7, 7, 7, 7, 7, 7, 7, 7, 7, 7, 7, 7, 7, 7, 7, 7, 7, 8, 8, 8, 8, 8, 8, 8, 8, 8, 8, 8, 8, 8, 8, 8, 8, 8, 8, 8, 8, 8, 8, 8, 8, 8, 8, 8, 8, 8, 8, 8, 8, 8, 8, 8, 8, 8, 8, 8, 8, 8, 8, 8, 8, 8, 8, 8, 8, 8, 8, 8, 8, 8, 8, 8, 8, 8, 8, 8, 8, 8, 8, 8, 8, 8, 8, 8, 8, 8, 8, 8, 8, 8, 8, 8, 8, 8, 8, 8, 8, 8, 8, 8, 8, 8, 8, 8, 8, 8, 8, 8, 8, 8, 8, 8, 8, 8, 8, 8, 8, 8, 8, 8, 8, 8, 8, 8, 8, 8, 8, 8, 8, 8, 8, 8, 8, 8, 8, 8, 8, 8, 8, 8, 8, 8, 8, 8, 8]⟩ (IntKind.wrap .u8 (shrI .u64 x0 32))))))) h))
  else
    (bif decide ((x0 : Int) ≥ 65536) then
      0 ≤ (16 : Int) ∧
      (bif decide (((shrI .u64 x0 16) : Int) ≥ 256) then
        0 ≤ (8 : Int) ∧
        0 ≤ (IntKind.wrap .u8 (shrI .u64 (shrI .u64 x0 16) 8) : Int) ∧ (IntKind.wrap .u8 (shrI .u64 (shrI .u64 x0 16) 8) : Int) < ((⟨#[0, 1, 2, 2, 3, 3, 3, 3, 4, 4, 4, 4, 4, 4, 4, 4, 5, 5, 5, 5, 5, 5, 5, 5, 5, 5, 5, 5, 5, 5, 5, 5, 6, 6, 6, 6, 6, 6, 6, 6, 6, 6, 6, 6, 6, 6, 6, 6, 6, 6, 6, 6, 6, 6, 6, 6, 6, 6, 6, 6, 6, 6, 6, 6, 7, 7, 7, 7, 7, 7, 7, 7, 7, 7, 7, 7, 7, 7, 7, 7, 7, 7, 7, 7, 7, 7, 7, 7, 7, 7, 7, 7, 7, 7, 7, 7, 7, 7, 7, 7, 7, 7, 7, 7, 7, 7, 7, 7, 7, 7, 7, 7, 7, 7, 7, 7, 7, 7, 7, 7, 7, 7, 7, 7, 7, 7, 7, 7, 8, 8, 8, 8, 8, 8, 8, 8, 8, 8, 8, 8, 8, 8, 8, 8, 8, 8, 8, 8, 8, 8, 8, 8, 8, 8, 8, 8, 8, 8, 8, 8, 8, 8, 8, 8, 8, 8, 8, 8, 8, 8, 8, 8, 8, 8, 8, 8, 8, 8, 8, 8, 8, 8, 8, 8, 8, 8, 8, 8, 8, 8, 8, 8, 8, 8, 8, 8, 8, 8, 8, 8, 8, 8, 8, 8, 8, 8, 8, 8, 8, 8, 8, 8, 8, 8, 8, 8, 8, 8, 8, 8, 8, 8, 8, 8, 8, 8, 8, 8, 8, 8, 8, 8, 8, 8, 8, 8, 8, 8, 8, 8, 8, 8, 8, 8, 8, 8, 8, 8, 8, 8, 8, 8, 8, 8, 8, 8]⟩ : ByteArray).size : Int) ∧
        Q (.int .i64 (IntKind.wrap .i64 ((IntKind.wrap .i64 ((IntKind.wrap .i64 (0 + 16)) + 8)) + (IntKind.wrap .i64 (bt ⟨#[0, 1, 2, 2, 3, 3, 3, 3, 4, 4, 4, 4, 4, 4, 4, 4, 5, 5, 5, 5, 5, 5, 5, 5, 5, 5, 5, 5, 5, 5, 5, 5, 6, 6, 6, 6, 6, 6, 6, 6, 6, 6, 6, 6, 6, 6, 6, 6, 6, 6, 6, 6, 6, 6, 6, 6, 6, 6, 6, 6, 6, 6, 6, 6, 7, 7, 7, 7, 7, 7, 7, 7, 7, 7, 7, 7, 7, 7, 7, 7, 7, 7, 7, 7, 7, 7, 7, 7, 7, 7, 7, 7, 7, 7, 7, 7, 7, 7, 7, 7, 7, 7, 7, 7, 7, 7, 7, 7, 7, 7, 7, 7, 7, 7, 7, 7, 7, 7, 7, 7, 7, 7, 7, 7, 7, 7, 7, 7, 8, 8, 8, 8, 8, 8, 8, 8, 8, 8, 8, 8, 8, 8, 8, 8, 8, 8, 8, 8, 8, 8, 8, 8, 8, 8, 8, 8, 8, 8, 8, 8, 8, 8, 8, 8, 8, 8, 8, 8, 8, 8, 8, 8, 8, 8, 8, 8, 8, 8, 8, 8, 8, 8, 8, 8, 8, 8, 8, 8, 8, 8, 8, 8, 8, 8, 8, 8, 8, 8, 8, 8, 8, 8, 8, 8, 8, 8, 8, 8, 8, 8, 8, 8, 8, 8, 8, 8, 8, 8, 8, 8, 8, 8, 8, 8, 8, 8, 8, 8, 8, 8, 8, 8, 8, 8, 8, 8, 8, 8, 8, 8, 8, 8, 8, 8, 8, 8, 8, 8, 8, 8, 8, 8, 8, 8, 8, 8]⟩ (IntKind.wrap .u8 (shrI .u64 (shrI .u64 x0 16) 8))))))) h
      else
        0 ≤ (IntKind.wrap .u8 (shrI .u64 x0 16) : Int) ∧ (IntKind.wrap .u8 (shrI .u64 x0 16) : Int) < ((⟨#[0, 1, 2, 2, 3, 3, 3, 3, 4, 4, 4, 4, 4, 4, 4, 4, 5, 5, 5, 5, 5, 5, 5, 5, 5, 5, 5, 5, 5, 5, 5, 5, 6, 6, 6, 6, 6, 6, 6, 6, 6, 6, 6, 6, 6, 6, 6, 6, 6, 6, 6, 6, 6, 6, 6, 6, 6, 6, 6, 6, 6, 6, 6, 6, 7, 7, 7, 7, 7, 7, 7, 7, 7, 7, 7, 7, 7, 7, 7, 7, 7, 7, 7, 7, 7, 7, 7, 7, 7, 7, 7, 7, 7, 7, 7, 7, 7, 7, 7, 7, 7, 7, 7, 7, 7, 7, 7, 7, 7, 7, 7, 7, 7, 7, 7, 7, 7, 7, 7, 7, 7, 7, 7, 7, 7, 7, 7, 7, 8, 8, 8, 8, 8, 8, 8, 8, 8, 8, 8, 8, 8, 8, 8, 8, 8, 8, 8, 8, 8, 8, 8, 8, 8, 8, 8, 8, 8, 8, 8, 8, 8, 8, 8, 8, 8, 8, 8, 8, 8, 8, 8, 8, 8, 8, 8, 8, 8, 8, 8, 8, 8, 8, 8, 8, 8, 8, 8, 8, 8, 8, 8, 8, 8, 8, 8, 8, 8, 8, 8, 8, 8, 8, 8, 8, 8, 8, 8, 8, 8, 8, 8, 8, 8, 8, 8, 8, 8, 8, 8, 8, 8, 8, 8, 8, 8, 8, 8, 8, 8, 8, 8, 8, 8, 8, 8, 8, 8, 8, 8, 8, 8, 8, 8, 8, 8, 8, 8, 8, 8, 8, 8, 8, 8, 8, 8, 8]⟩ : ByteArray).size : Int) ∧
        Q (.int .i64 (IntKind.wrap .i64 ((IntKind.wrap .i64 (0 + 16)) + (IntKind.wrap .i64 (bt ⟨#[0, 1, 2, 2, 3, 3, 3, 3, 4, 4, 4, 4, 4, 4, 4, 4, 5, 5, 5, 5, 5, 5, 5, 5, 5, 5, 5, 5, 5, 5, 5, 5, 6, 6, 6, 6, 6, 6, 6, 6, 6, 6, 6, 6, 6, 6, 6, 6, 6, 6, 6, 6, 6, 6, 6, 6, 6, 6, 6, 6, 6, 6, 6, 6, 7, 7, 7, 7, 7, 7, 7, 7, 7, 7, 7, 7, 7, 7, 7, 7, 7, 7, 7, 7, 7, 7, 7, 7, 7, 7, 7, 7, 7, 7, 7, 7, 7, 7, 7, 7, 7, 7, 7, 7, 7, 7, 7, 7, 7, 7, 7, 7, 7, 7, 7, 7, 7, 7, 7, 7, 7, 7, 7, 7, 7, 7, 7, 7, 8, 8, 8, 8, 8, 8, 8, 8, 8, 8, 8, 8, 8, 8, 8, 8, 8, 8, 8, 8, 8, 8, 8, 8, 8, 8, 8, 8, 8, 8, 8, 8, 8, 8, 8, 8, 8, 8, 8, 8, 8, 8, 8, 8, 8, 8, 8, 8, 8, 8, 8, 8, 8, 8, 8, 8, 8, 8, 8, 8, 8, 8, 8, 8, 8, 8, 8, 8, 8, 8, 8, 8, 8, 8, 8, 8, 8, 8, 8, 8, 8, 8, 8, 8, 8, 8, 8, 8, 8, 8, 8, 8, 8, 8, 8, 8, 8, 8, 8, 8, 8, 8, 8, 8, 8, 8, 8, 8, 8, 8, 8, 8, 8, 8, 8, 8, 8, 8, 8, 8, 8, 8, 8, 8, 8, 8, 8, 8]⟩ (IntKind.wrap .u8 (shrI .u64 x0 16))))))) h)
    else
      (bif decide ((x0 : Int) ≥ 256) then
        0 ≤ (8 : Int) ∧
        0 ≤ (IntKind.wrap .u8 (shrI .u64 x0 8) : Int) ∧ (IntKind.wrap .u8 (shrI .u64 x0 8) : Int) < ((⟨#[0, 1, 2, 2, 3, 3, 3, 3, 4, 4, 4, 4, 4, 4, 4, 4, 5, 5, 5, 5, 5, 5, 5, 5, 5, 5, 5, 5, 5, 5, 5, 5, 6, 6, 6, 6, 6, 6, 6, 6, 6, 6, 6, 6, 6, 6, 6, 6, 6, 6, 6, 6, 6, 6, 6, 6, 6, 6, 6, 6, 6, 6, 6, 6, 7, 7, 7, 7, 7, 7, 7, 7, 7, 7, 7, 7, 7, 7, 7, 7, 7, 7, 7, 7, 7, 7, 7, 7, 7, 7, 7, 7, 7, 7, 7, 7, 7, 7, 7, 7, 7, 7, 7, 7, 7, 7, 7, 7, 7, 7, 7, 7, 7, 7, 7, 7, 7, 7, 7, 7, 7, 7, 7, 7, 7, 7, 7, 7, 8, 8, 8, 8, 8, 8, 8, 8, 8, 8, 8, 8, 8, 8, 8, 8, 8, 8, 8, 8, 8, 8, 8, 8, 8, 8, 8, 8, 8, 8, 8, 8, 8, 8, 8, 8, 8, 8, 8, 8, 8, 8, 8, 8, 8, 8, 8, 8, 8, 8, 8, 8, 8, 8, 8, 8, 8, 8, 8, 8, 8, 8, 8, 8, 8, 8, 8, 8, 8, 8, 8, 8, 8, 8, 8, 8, 8, 8, 8, 8, 8, 8, 8, 8, 8, 8, 8, 8, 8, 8, 8, 8, 8, 8, 8, 8, 8, 8, 8, 8, 8, 8, 8, 8, 8, 8, 8, 8, 8, 8, 8, 8, 8, 8, 8, 8, 8, 8, 8, 8, 8, 8, 8, 8, 8, 8, 8, 8]⟩ : ByteArray).size : Int) ∧
        Q (.int .i64 (IntKind.wrap .i64 ((IntKind.wrap .i64 (0 + 8)) + (IntKind.wrap .i64 (bt ⟨#[0, 1, 2, 2, 3, 3, 3, 3, 4, 4, 4, 4, 4, 4, 4, 4, 5, 5, 5, 5, 5, 5, 5, 5, 5, 5, 5, 5, 5, 5, 5, 5, 6, 6, 6, 6, 6, 6, 6, 6, 6, 6, 6, 6, 6, 6, 6, 6, 6, 6, 6, 6, 6, 6, 6, 6, 6, 6, 6, 6, 6, 6, 6, 6, 7, 7, 7, 7, 7, 7, 7, 7, 7, 7, 7, 7, 7, 7, 7, 7, 7, 7, 7, 7, 7, 7, 7, 7, 7, 7, 7, 7, 7, 7, 7, 7, 7, 7, 7, 7, 7, 7, 7, 7, 7, 7, 7, 7, 7, 7, 7, 7, 7, 7, 7, 7, 7, 7, 7, 7, 7, 7, 7, 7, 7, 7, 7, 7, 8, 8, 8, 8, 8, 8, 8, 8, 8, 8, 8, 8, 8, 8, 8, 8, 8, 8, 8, 8, 8, 8, 8, 8, 8, 8, 8, 8, 8, 8, 8, 8, 8, 8, 8, 8, 8, 8, 8, 8, 8, 8, 8, 8, 8, 8, 8, 8, 8, 8, 8, 8, 8, 8, 8, 8, 8, 8, 8, 8, 8, 8, 8, 8, 8, 8, 8, 8, 8, 8, 8, 8, 8, 8, 8, 8, 8, 8, 8, 8, 8, 8, 8, 8, 8, 8, 8, 8, 8, 8, 8, 8, 8, 8, 8, 8, 8, 8, 8, 8, 8, 8, 8, 8, 8, 8, 8, 8, 8, 8, 8, 8, 8, 8, 8, 8, 8, 8, 8, 8, 8, 8, 8, 8, 8, 8, 8, 8]⟩ (IntKind.wrap .u8 (shrI .u64 x0 8))))))) h
      else
        0 ≤ (IntKind.wrap .u8 x0 : Int) ∧ (IntKind.wrap .u8 x0 : Int) < ((⟨#[0, 1, 2, 2, 3, 3, 3, 3, 4, 4, 4, 4, 4, 4, 4, 4, 5, 5, 5, 5, 5, 5, 5, 5, 5, 5, 5, 5, 5, 5, 5, 5, 6, 6, 6, 6, 6, 6, 6, 6, 6, 6, 6, 6, 6, 6, 6, 6, 6, 6, 6, 6, 6, 6, 6, 6, 6, 6, 6, 6, 6, 6, 6, 6, 7, 7, 7, 7, 7, 7, 7, 7, 7, 7, 7, 7, 7, 7, 7, 7, 7, 7, 7, 7, 7, 7, 7, 7, 7, 7, 7, 7, 7, 7, 7, 7, 7, 7, 7, 7, 7, 7, 7, 7, 7, 7, 7, 7, 7, 7, 7, 7, 7, 7, 7, 7, 7, 7, 7, 7, 7, 7, 7, 7, 7, 7, 7, 7, 8, 8, 8, 8, 8, 8, 8, 8, 8, 8, 8, 8, 8, 8, 8, 8, 8, 8, 8, 8, 8, 8, 8, 8, 8, 8, 8, 8, 8, 8, 8, 8, 8, 8, 8, 8, 8, 8, 8, 8, 8, 8, 8, 8, 8, 8, 8, 8, 8, 8, 8, 8, 8, 8, 8, 8, 8, 8, 8, 8, 8, 8, 8, 8, 8, 8, 8, 8, 8, 8, 8, 8, 8, 8, 8, 8, 8, 8, 8, 8, 8, 8, 8, 8, 8, 8, 8, 8, 8, 8, 8, 8, 8, 8, 8, 8, 8, 8, 8, 8, 8, 8, 8, 8, 8, 8, 8, 8, 8, 8, 8, 8, 8, 8, 8, 8, 8, 8, 8, 8, 8, 8, 8, 8, 8, 8, 8, 8]⟩ : ByteArray).size : Int) ∧
        Q (.int .i64 (IntKind.wrap .i64 (0 + (IntKind.wrap .i64 (bt ⟨#[0, 1, 2, 2, 3, 3, 3, 3, 4, 4, 4, 4, 4, 4, 4, 4, 5, 5, 5, 5, 5, 5, 5, 5, 5, 5, 5, 5, 5, 5, 5, 5, 6, 6, 6, 6, 6, 6, 6, 6, 6, 6, 6, 6, 6, 6, 6, 6, 6, 6, 6, 6, 6, 6, 6, 6, 6, 6, 6, 6, 6, 6, 6, 6, 7, 7, 7, 7, 7, 7, 7, 7, 7, 7, 7, 7, 7, 7, 7, 7, 7, 7, 7, 7, 7, 7, 7, 7, 7, 7, 7, 7, 7, 7, 7, 7, 7, 7, 7, 7, 7, 7, 7, 7, 7, 7, 7, 7, 7, 7, 7, 7, 7, 7, 7, 7, 7, 7, 7, 7, 7, 7, 7, 7, 7, 7, 7, 7, 8, 8, 8, 8, 8, 8, 8, 8, 8, 8, 8, 8, 8, 8, 8, 8, 8, 8, 8, 8, 8, 8, 8, 8, 8, 8, 8, 8, 8, 8, 8, 8, 8, 8, 8, 8, 8, 8, 8, 8, 8, 8, 8, 8, 8, 8, 8, 8, 8, 8, 8, 8, 8, 8, 8, 8, 8, 8, 8, 8, 8, 8, 8, 8, 8, 8, 8, 8, 8, 8, 8, 8, 8, 8, 8, 8, 8, 8, 8, 8, 8, 8, 8, 8, 8, 8, 8, 8, 8, 8, 8, 8, 8, 8, 8, 8, 8, 8, 8, 8, 8, 8, 8, 8, 8, 8, 8, 8, 8, 8, 8, 8, 8, 8, 8, 8, 8, 8, 8, 8, 8, 8, 8, 8, 8, 8, 8, 8]⟩ (IntKind.wrap .u8 x0)))))) h)))
theorem F155_eq : (fun (x0 : Int) (h : Heap) (Q : Value → Heap → Prop) => fnPT Try.prog Try.f155 (fun _ => annNil) (fun _ => []) (fun _ => none) [.int .u64 x0] h Q) = F155 := by kernel_rfl
theorem F155_ok {x0 : Int} {h : Heap} {Q : Value → Heap → Prop} (H : F155 x0 h Q) : CallsH Try.prog 155 [.int .u64 x0] h Q :=
  callsH_of (ann := fun _ => annNil) (tys := fun _ => []) (pl := fun _ => none) Try.func155 (by kernel_rfl) (by have e := F155_eq; exact (congrFun (congrFun (congrFun (e) x0) h) Q).symm ▸ H)

/-- slices.siftDownOrdered[string] -/
def F156 (data0a : Option Addr) (data0l : Nat) (data0c : Nat) (lo0 : Int) (hi0 : Int) (first0 : Int) (h : Heap) (Q : Value → Heap → Prop) : Prop :=
  LoopH (fun again0 (s0 : Int) h_0 =>
    (bif decide (((IntKind.wrap .i64 ((IntKind.wrap .i64 (2 * s0)) + 1)) : Int) ≥ hi0) then
      Q (.tuple #[]) h_0
    else
      (bif decide (((IntKind.wrap .i64 ((IntKind.wrap .i64 ((IntKind.wrap .i64 (2 * s0)) + 1)) + 1)) : Int) < hi0) then
        IdxA data0a data0l (IntKind.wrap .i64 (first0 + (IntKind.wrap .i64 ((IntKind.wrap .i64 (2 * s0)) + 1)))) 1 fun a0 =>
        Ld h_0 a0 fun v0 => DS v0 fun x0 =>
        IdxA data0a data0l (IntKind.wrap .i64 ((IntKind.wrap .i64 (first0 + (IntKind.wrap .i64 ((IntKind.wrap .i64 (2 * s0)) + 1)))) + 1)) 1 fun a1 =>
        Ld h_0 a1 fun v1 => DS v1 fun x1 =>
        ∃ r1, (CallsH Try.prog 151 [.string x0, .string x1] h_0 fun r0 h_1 =>
        r0 = r1 ∧ h_1 = h_0) ∧
        DB r1 fun x2 =>
        (bif x2 then
          IdxA data0a data0l (IntKind.wrap .i64 (first0 + s0)) 1 fun a2 =>
          Ld h_0 a2 fun v2 => DS v2 fun x3 =>
          IdxA data0a data0l (IntKind.wrap .i64 (first0 + (IntKind.wrap .i64 ((IntKind.wrap .i64 ((IntKind.wrap .i64 (2 * s0)) + 1)) + 1)))) 1 fun a3 =>
          Ld h_0 a3 fun v3 => DS v3 fun x4 =>
          ∃ r3, (CallsH Try.prog 151 [.string x3, .string x4] h_0 fun r2 h_2 =>
          r2 = r3 ∧ h_2 = h_0) ∧
          DB r3 fun x5 =>
          (bif !x5 then
            Q (.tuple #[]) h_0
          else
            IdxA data0a data0l (IntKind.wrap .i64 (first0 + (IntKind.wrap .i64 ((IntKind.wrap .i64 ((IntKind.wrap .i64 (2 * s0)) + 1)) + 1)))) 1 fun a4 =>
            Ld h_0 a4 fun v4 => DS v4 fun x6 =>
            IdxA data0a data0l (IntKind.wrap .i64 (first0 + s0)) 1 fun a5 =>
            Ld h_0 a5 fun v5 => DS v5 fun x7 =>
            IdxA data0a data0l (IntKind.wrap .i64 (first0 + s0)) 1 fun a6 =>
            StC h_0 (a6.add 0) (.string x6) fun h_4 =>
            (SameV (some (.slice data0a data0l data0c)) (.slice data0a data0l data0c)) ∧
            (SameV (some (.int .i64 first0)) (.int .i64 first0)) ∧
            (SameV (some (.int .i64 (IntKind.wrap .i64 ((IntKind.wrap .i64 ((IntKind.wrap .i64 (2 * s0)) + 1)) + 1)))) (.int .i64 (IntKind.wrap .i64 ((IntKind.wrap .i64 ((IntKind.wrap .i64 (2 * s0)) + 1)) + 1)))) ∧
            (SameV (some (.int .i64 (IntKind.wrap .i64 (first0 + (IntKind.wrap .i64 ((IntKind.wrap .i64 ((IntKind.wrap .i64 (2 * s0)) + 1)) + 1)))))) (.int .i64 (IntKind.wrap .i64 (first0 + (IntKind.wrap .i64 ((IntKind.wrap .i64 ((IntKind.wrap .i64 (2 * s0)) + 1)) + 1)))))) ∧
            IdxA data0a data0l (IntKind.wrap .i64 (first0 + (IntKind.wrap .i64 ((IntKind.wrap .i64 ((IntKind.wrap .i64 (2 * s0)) + 1)) + 1)))) 1 fun a7 =>
            StC h_4 (a7.add 0) (.string x7) fun h_6 =>
            again0 (IntKind.wrap .i64 ((IntKind.wrap .i64 ((IntKind.wrap .i64 (2 * s0)) + 1)) + 1)) h_6)
        else
          IdxA data0a data0l (IntKind.wrap .i64 (first0 + s0)) 1 fun a8 =>
          Ld h_0 a8 fun v6 => DS v6 fun x8 =>
          IdxA data0a data0l (IntKind.wrap .i64 (first0 + (IntKind.wrap .i64 ((IntKind.wrap .i64 (2 * s0)) + 1)))) 1 fun a9 =>
          Ld h_0 a9 fun v7 => DS v7 fun x9 =>
          ∃ r7, (CallsH Try.prog 151 [.string x8, .string x9] h_0 fun r6 h_7 =>
          r6 = r7 ∧ h_7 = h_0) ∧
          DB r7 fun x10 =>
          (bif !x10 then
            Q (.tuple #[]) h_0
          else
            IdxA data0a data0l (IntKind.wrap .i64 (first0 + (IntKind.wrap .i64 ((IntKind.wrap .i64 (2 * s0)) + 1)))) 1 fun a10 =>
            Ld h_0 a10 fun v8 => DS v8 fun x11 =>
            IdxA data0a data0l (IntKind.wrap .i64 (first0 + s0)) 1 fun a11 =>
            Ld h_0 a11 fun v9 => DS v9 fun x12 =>
            IdxA data0a data0l (IntKind.wrap .i64 (first0 + s0)) 1 fun a12 =>
            StC h_0 (a12.add 0) (.string x11) fun h_9 =>
            (SameV (some (.slice data0a data0l data0c)) (.slice data0a data0l data0c)) ∧
            (SameV (some (.int .i64 first0)) (.int .i64 first0)) ∧
            (SameV (some (.int .i64 (IntKind.wrap .i64 ((IntKind.wrap .i64 (2 * s0)) + 1)))) (.int .i64 (IntKind.wrap .i64 ((IntKind.wrap .i64 (2 * s0)) + 1)))) ∧
            (SameV (some (.int .i64 (IntKind.wrap .i64 (first0 + (IntKind.wrap .i64 ((IntKind.wrap .i64 (2 * s0)) + 1)))))) (.int .i64 (IntKind.wrap .i64 (first0 + (IntKind.wrap .i64 ((IntKind.wrap .i64 (2 * s0)) + 1)))))) ∧
            IdxA data0a data0l (IntKind.wrap .i64 (first0 + (IntKind.wrap .i64 ((IntKind.wrap .i64 (2 * s0)) + 1)))) 1 fun a13 =>
            StC h_9 (a13.add 0) (.string x12) fun h_11 =>
            again0 (IntKind.wrap .i64 ((IntKind.wrap .i64 (2 * s0)) + 1)) h_11))
      else
        IdxA data0a data0l (IntKind.wrap .i64 (first0 + s0)) 1 fun a14 =>
        Ld h_0 a14 fun v10 => DS v10 fun x13 =>
        IdxA data0a data0l (IntKind.wrap .i64 (first0 + (IntKind.wrap .i64 ((IntKind.wrap .i64 (2 * s0)) + 1)))) 1 fun a15 =>
        Ld h_0 a15 fun v11 => DS v11 fun x14 =>
        ∃ r11, (CallsH Try.prog 151 [.string x13, .string x14] h_0 fun r10 h_12 =>
        r10 = r11 ∧ h_12 = h_0) ∧
        DB r11 fun x15 =>
        (bif !x15 then
          Q (.tuple #[]) h_0
        else
          IdxA data0a data0l (IntKind.wrap .i64 (first0 + (IntKind.wrap .i64 ((IntKind.wrap .i64 (2 * s0)) + 1)))) 1 fun a16 =>
          Ld h_0 a16 fun v12 => DS v12 fun x16 =>
          IdxA data0a data0l (IntKind.wrap .i64 (first0 + s0)) 1 fun a17 =>
          Ld h_0 a17 fun v13 => DS v13 fun x17 =>
          IdxA data0a data0l (IntKind.wrap .i64 (first0 + s0)) 1 fun a18 =>
          StC h_0 (a18.add 0) (.string x16) fun h_14 =>
          (SameV (some (.slice data0a data0l data0c)) (.slice data0a data0l data0c)) ∧
          (SameV (some (.int .i64 first0)) (.int .i64 first0)) ∧
          (SameV (some (.int .i64 (IntKind.wrap .i64 ((IntKind.wrap .i64 (2 * s0)) + 1)))) (.int .i64 (IntKind.wrap .i64 ((IntKind.wrap .i64 (2 * s0)) + 1)))) ∧
          (SameV (some (.int .i64 (IntKind.wrap .i64 (first0 + (IntKind.wrap .i64 ((IntKind.wrap .i64 (2 * s0)) + 1)))))) (.int .i64 (IntKind.wrap .i64 (first0 + (IntKind.wrap .i64 ((IntKind.wrap .i64 (2 * s0)) + 1)))))) ∧
          IdxA data0a data0l (IntKind.wrap .i64 (first0 + (IntKind.wrap .i64 ((IntKind.wrap .i64 (2 * s0)) + 1)))) 1 fun a19 =>
          StC h_14 (a19.add 0) (.string x17) fun h_16 =>
          again0 (IntKind.wrap .i64 ((IntKind.wrap .i64 (2 * s0)) + 1)) h_16)))) lo0 h
theorem F156_eq : (fun (data0a : Option Addr) (data0l : Nat) (data0c : Nat) (lo0 : Int) (hi0 : Int) (first0 : Int) (h : Heap) (Q : Value → Heap → Prop) => fnPT Try.prog Try.f156 (fun i => bif Nat.beq i 0 then annOne 8 (codI .i64) else annNil) (fun _ => []) (fun i => bif Nat.beq i 6 then some ⟨[0, 0, 0, 6, 0, 0, 0, 96, 0, 0, 0, 1536, 3840, 7936, 0, 0, 0, 98304, 245760, 507904, 1048335, 2096911, 4194303, 8388607], 10485760⟩ else none) [.slice data0a data0l data0c, .int .i64 lo0, .int .i64 hi0, .int .i64 first0] h Q) = F156 := by kernel_rfl
theorem F156_ok {data0a : Option Addr} {data0l : Nat} {data0c : Nat} {lo0 : Int} {hi0 : Int} {first0 : Int} {h : Heap} {Q : Value → Heap → Prop} (H : F156 data0a data0l data0c lo0 hi0 first0 h Q) : CallsH Try.prog 156 [.slice data0a data0l data0c, .int .i64 lo0, .int .i64 hi0, .int .i64 first0] h Q :=
  callsH_of (ann := fun i => bif Nat.beq i 0 then annOne 8 (codI .i64) else annNil) (tys := fun _ => []) (pl := fun i => bif Nat.beq i 6 then some ⟨[0, 0, 0, 6, 0, 0, 0, 96, 0, 0, 0, 1536, 3840, 7936, 0, 0, 0, 98304, 245760, 507904, 1048335, 2096911, 4194303, 8388607], 10485760⟩ else none) Try.func156 (by kernel_rfl) (by have e := F156_eq; exact (congrFun (congrFun (congrFun (congrFun (congrFun (congrFun (congrFun (congrFun (e) data0a) data0l) data0c) lo0) hi0) first0) h) Q).symm ▸ H)

/-- slices.nextPowerOfTwo -/
def F157 (length0 : Int) (h : Heap) (Q : Value → Heap → Prop) : Prop :=
  CallsH Try.prog 136 [.int .u64 (IntKind.wrap .u64 length0)] h fun r0 h_0 =>
  DI .i64 r0 fun x0 =>
  0 ≤ (x0 : Int) ∧
  Q (.int .u64 (shlI .u64 1 x0)) h_0
theorem F157_eq : (fun (length0 : Int) (h : Heap) (Q : Value → Heap → Prop) => fnPT Try.prog Try.f157 (fun _ => annNil) (fun _ => []) (fun _ => none) [.int .i64 length0] h Q) = F157 := by kernel_rfl
theorem F157_ok {length0 : Int} {h : Heap} {Q : Value → Heap → Prop} (H : F157 length0 h Q) : CallsH Try.prog 157 [.int .i64 length0] h Q :=
  callsH_of (ann := fun _ => annNil) (tys := fun _ => []) (pl := fun _ => none) Try.func157 (by kernel_rfl) (by have e := F157_eq; exact (congrFun (congrFun (congrFun (e) length0) h) Q).symm ▸ H)

/-- (*slices.xorshift).Next -/
def F158 (r0 : Option Addr) (h : Heap) (Q : Value → Heap → Prop) : Prop :=
  NN' r0 fun a0 =>
  Ld h a0 fun v0 => DI .u64 v0 fun x0 =>
  NN' r0 fun a1 =>
  Ld h a1 fun v1 => DI .u64 v1 fun x1 =>
  0 ≤ (13 : Int) ∧
  NN' r0 fun a2 =>
  StC h (a2.add 0) (.int .u64 (bitsI .xor .u64 x0 (shlI .u64 x1 13))) fun h_1 =>
  NN' r0 fun a3 =>
  Ld h_1 a3 fun v2 => DI .u64 v2 fun x2 =>
  NN' r0 fun a4 =>
  Ld h_1 a4 fun v3 => DI .u64 v3 fun x3 =>
  0 ≤ (7 : Int) ∧
  NN' r0 fun a5 =>
  StC h_1 (a5.add 0) (.int .u64 (bitsI .xor .u64 x2 (shrI .u64 x3 7))) fun h_3 =>
  NN' r0 fun a6 =>
  Ld h_3 a6 fun v4 => DI .u64 v4 fun x4 =>
  NN' r0 fun a7 =>
  Ld h_3 a7 fun v5 => DI .u64 v5 fun x5 =>
  0 ≤ (17 : Int) ∧
  NN' r0 fun a8 =>
  StC h_3 (a8.add 0) (.int .u64 (bitsI .xor .u64 x4 (shlI .u64 x5 17))) fun h_5 =>
  NN' r0 fun a9 =>
  Ld h_5 a9 fun v6 => DI .u64 v6 fun x6 =>
  Q (.int .u64 x6) h_5
theorem F158_eq : (fun (r0 : Option Addr) (h : Heap) (Q : Value → Heap → Prop) => fnPT Try.prog Try.f158 (fun _ => annNil) (fun _ => []) (fun i => bif Nat.beq i 1 then some ⟨[0, 1, 3, 0, 8, 24, 56, 127, 255, 511], 512⟩ else bif Nat.beq i 2 then some ⟨[0, 1, 3, 0, 8, 24, 56, 127, 255, 511], 512⟩ else bif Nat.beq i 3 then some ⟨[0, 1, 3, 0, 8, 24, 56, 127, 255, 511], 512⟩ else none) [.pointer r0] h Q) = F158 := by kernel_rfl
theorem F158_ok {r0 : Option Addr} {h : Heap} {Q : Value → Heap → Prop} (H : F158 r0 h Q) : CallsH Try.prog 158 [.pointer r0] h Q :=
  callsH_of (ann := fun _ => annNil) (tys := fun _ => []) (pl := fun i => bif Nat.beq i 1 then some ⟨[0, 1, 3, 0, 8, 24, 56, 127, 255, 511], 512⟩ else bif Nat.beq i 2 then some ⟨[0, 1, 3, 0, 8, 24, 56, 127, 255, 511], 512⟩ else bif Nat.beq i 3 then some ⟨[0, 1, 3, 0, 8, 24, 56, 127, 255, 511], 512⟩ else none) Try.func158 (by kernel_rfl) (by have e := F158_eq; exact (congrFun (congrFun (congrFun (e) r0) h) Q).symm ▸ H)

/-- slices.medianAdjacentOrdered[string] -/
def F159 (data0a : Option Addr) (data0l : Nat) (data0c : Nat) (a0 : Int) (swaps0 : Option Addr) (h : Heap) (Q : Value → Heap → Prop) : Prop :=
  CallsH Try.prog 160 [.slice data0a data0l data0c, .int .i64 (IntKind.wrap .i64 (a0 - 1)), .int .i64 a0, .int .i64 (IntKind.wrap .i64 (a0 + 1)), .pointer swaps0] h fun r0 h_0 =>
  DI .i64 r0 fun x0 =>
  Q (.int .i64 x0) h_0
theorem F159_eq : (fun (data0a : Option Addr) (data0l : Nat) (data0c : Nat) (a0 : Int) (swaps0 : Option Addr) (h : Heap) (Q : Value → Heap → Prop) => fnPT Try.prog Try.f159 (fun _ => annNil) (fun _ => []) (fun _ => none) [.slice data0a data0l data0c, .int .i64 a0, .pointer swaps0] h Q) = F159 := by kernel_rfl
theorem F159_ok {data0a : Option Addr} {data0l : Nat} {data0c : Nat} {a0 : Int} {swaps0 : Option Addr} {h : Heap} {Q : Value → Heap → Prop} (H : F159 data0a data0l data0c a0 swaps0 h Q) : CallsH Try.prog 159 [.slice data0a data0l data0c, .int .i64 a0, .pointer swaps0] h Q :=
  callsH_of (ann := fun _ => annNil) (tys := fun _ => []) (pl := fun _ => none) Try.func159 (by kernel_rfl) (by have e := F159_eq; exact (congrFun (congrFun (congrFun (congrFun (congrFun (congrFun (congrFun (e) data0a) data0l) data0c) a0) swaps0) h) Q).symm ▸ H)

/-- slices.medianOrdered[string] -/
def F160 (data0a : Option Addr) (data0l : Nat) (data0c : Nat) (a0 : Int) (b0 : Int) (c0 : Int) (swaps0 : Option Addr) (h : Heap) (Q : Value → Heap → Prop) : Prop :=
  CallsH Try.prog 162 [.slice data0a data0l data0c, .int .i64 a0, .int .i64 b0, .pointer swaps0] h fun r0 h_0 =>
  ∃ (x0 : Int), ∃ (x1 : Int), r0 = .tuple #[.int .i64 x0, .int .i64 x1] ∧
  CallsH Try.prog 162 [.slice data0a data0l data0c, .int .i64 x1, .int .i64 c0, .pointer swaps0] h_0 fun r1 h_1 =>
  ∃ (x2 : Int), ∃ (x3 : Int), r1 = .tuple #[.int .i64 x2, .int .i64 x3] ∧
  CallsH Try.prog 162 [.slice data0a data0l data0c, .int .i64 x0, .int .i64 x2, .pointer swaps0] h_1 fun r2 h_2 =>
  ∃ (x4 : Int), ∃ (x5 : Int), r2 = .tuple #[.int .i64 x4, .int .i64 x5] ∧
  Q (.int .i64 x5) h_2
theorem F160_eq : (fun (data0a : Option Addr) (data0l : Nat) (data0c : Nat) (a0 : Int) (b0 : Int) (c0 : Int) (swaps0 : Option Addr) (h : Heap) (Q : Value → Heap → Prop) => fnPT Try.prog Try.f160 (fun _ => annNil) (fun _ => []) (fun _ => none) [.slice data0a data0l data0c, .int .i64 a0, .int .i64 b0, .int .i64 c0, .pointer swaps0] h Q) = F160 := by kernel_rfl
theorem F160_ok {data0a : Option Addr} {data0l : Nat} {data0c : Nat} {a0 : Int} {b0 : Int} {c0 : Int} {swaps0 : Option Addr} {h : Heap} {Q : Value → Heap → Prop} (H : F160 data0a data0l data0c a0 b0 c0 swaps0 h Q) : CallsH Try.prog 160 [.slice data0a data0l data0c, .int .i64 a0, .int .i64 b0, .int .i64 c0, .pointer swaps0] h Q :=
  callsH_of (ann := fun _ => annNil) (tys := fun _ => []) (pl := fun _ => none) Try.func160 (by kernel_rfl) (by have e := F160_eq; exact (congrFun (congrFun (congrFun (congrFun (congrFun (congrFun (congrFun (congrFun (congrFun (e) data0a) data0l) data0c) a0) b0) c0) swaps0) h) Q).symm ▸ H)

/-- cmp.isNaN[string] -/
def F161 (x0 : ByteArray) (h : Heap) (Q : Value → Heap → Prop) : Prop :=
  Q (.bool (!strEq x0 x0)) h
theorem F161_eq : (fun (x0 : ByteArray) (h : Heap) (Q : Value → Heap → Prop) => fnPT Try.prog Try.f161 (fun _ => annNil) (fun _ => []) (fun _ => none) [.string x0] h Q) = F161 := by kernel_rfl
theorem F161_ok {x0 : ByteArray} {h : Heap} {Q : Value → Heap → Prop} (H : F161 x0 h Q) : CallsH Try.prog 161 [.string x0] h Q :=
  callsH_of (ann := fun _ => annNil) (tys := fun _ => []) (pl := fun _ => none) Try.func161 (by kernel_rfl) (by have e := F161_eq; exact (congrFun (congrFun (congrFun (e) x0) h) Q).symm ▸ H)

/-- slices.order2Ordered[string] -/
def F162 (data0a : Option Addr) (data0l : Nat) (data0c : Nat) (a0 : Int) (b0 : Int) (swaps0 : Option Addr) (h : Heap) (Q : Value → Heap → Prop) : Prop :=
  IdxA data0a data0l b0 1 fun a1 =>
  Ld h a1 fun v0 => DS v0 fun x0 =>
  IdxA data0a data0l a0 1 fun a2 =>
  Ld h a2 fun v1 => DS v1 fun x1 =>
  ∃ r1, (CallsH Try.prog 151 [.string x0, .string x1] h fun r0 h_0 =>
  r0 = r1 ∧ h_0 = h) ∧
  DB r1 fun x2 =>
  (bif x2 then
    NN' swaps0 fun a3 =>
    Ld h a3 fun v2 => DI .i64 v2 fun x3 =>
    NN' swaps0 fun a4 =>
    StC h (a4.add 0) (.int .i64 (IntKind.wrap .i64 (x3 + 1))) fun h_2 =>
    Q (.tuple #[.int .i64 b0, .int .i64 a0]) h_2
  else
    Q (.tuple #[.int .i64 a0, .int .i64 b0]) h)
theorem F162_eq : (fun (data0a : Option Addr) (data0l : Nat) (data0c : Nat) (a0 : Int) (b0 : Int) (swaps0 : Option Addr) (h : Heap) (Q : Value → Heap → Prop) => fnPT Try.prog Try.f162 (fun _ => annNil) (fun _ => []) (fun _ => none) [.slice data0a data0l data0c, .int .i64 a0, .int .i64 b0, .pointer swaps0] h Q) = F162 := by kernel_rfl
theorem F162_ok {data0a : Option Addr} {data0l : Nat} {data0c : Nat} {a0 : Int} {b0 : Int} {swaps0 : Option Addr} {h : Heap} {Q : Value → Heap → Prop} (H : F162 data0a data0l data0c a0 b0 swaps0 h Q) : CallsH Try.prog 162 [.slice data0a data0l data0c, .int .i64 a0, .int .i64 b0, .pointer swaps0] h Q :=
  callsH_of (ann := fun _ => annNil) (tys := fun _ => []) (pl := fun _ => none) Try.func162 (by kernel_rfl) (by have e := F162_eq; exact (congrFun (congrFun (congrFun (congrFun (congrFun (congrFun (congrFun (congrFun (e) data0a) data0l) data0c) a0) b0) swaps0) h) Q).symm ▸ H)

end Go.Proofs.Yticjjdhaikbdaaa
