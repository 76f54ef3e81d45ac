/- The texts over heaps of functions of the program: written by a program of this claim's writer (decomp.py); Lean checks each against the code. -/
import Derived.Test.YticjjdhaikbdaaaFyFwA
import Derived.Test.YticjjdhaikbdaaaProg
namespace Go.Proofs.Yticjjdhaikbdaaa
open Go Go.RowKit
set_option linter.unusedVariables false
set_option maxRecDepth 100000

/-- (*headgate/simfs.FS).find -/
def F107 (f0 : Option Addr) (dir0 : ByteArray) (of_0a : Option Addr) (of_0l : Nat) (of_0c : Nat) (h : Heap) (Q : Value → Heap → Prop) : Prop :=
  CallsH Try.prog 133 [.string dir0] h fun r0 h_0 =>
  DB r0 fun x0 =>
  (bif !x0 then
    Q (.tuple #[.pointer none, .int .i64 65]) h_0
  else
    LoopH (fun again0 (s0 : Int) h_1 =>
      (bif decide ((s0 : Int) < (of_0l : Int)) then
        IdxA of_0a of_0l s0 1 fun a0 =>
        Ld h_1 a0 fun v0 => DS v0 fun s1 =>
        CallsH Try.prog 133 [.string s1] h_1 fun r1 h_2 =>
        DB r1 fun x1 =>
        (bif !x1 then
          Q (.tuple #[.pointer none, .int .i64 65]) h_2
        else
          again0 (IntKind.wrap .i64 (s0 + 1)) h_2)
      else
        NN' f0 fun a1 =>
        Ld h_1 (a1.add 5) fun v1 => DM v1 fun x2 =>
        ∃ es0, mapEs h_1 x2 es0 ∧ ∃ f1, Instr.findNow .string (.string dir0) (es0 : Array MapEntry).toList 0 = some f1 ∧
        DP ((Option.map (fun x => x.2) f1).getD (.pointer none)) fun d0 =>
        (bif (d0).isNone then
          Q (.tuple #[.pointer none, .int .i64 61]) h_1
        else
          Q (.tuple #[.pointer d0, .int .i64 0]) h_1))) 0 h_0)
theorem F107_eq : (fun (f0 : Option Addr) (dir0 : ByteArray) (of_0a : Option Addr) (of_0l : Nat) (of_0c : Nat) (h : Heap) (Q : Value → Heap → Prop) => fnPT Try.prog Try.f107 (fun i => bif Nat.beq i 0 then annOne 16 (codI .i64) else annNil) (fun _ => []) (fun _ => none) [.pointer f0, .string dir0, .slice of_0a of_0l of_0c] h Q) = F107 := by kernel_rfl
theorem F107_ok {f0 : Option Addr} {dir0 : ByteArray} {of_0a : Option Addr} {of_0l : Nat} {of_0c : Nat} {h : Heap} {Q : Value → Heap → Prop} (H : F107 f0 dir0 of_0a of_0l of_0c h Q) : CallsH Try.prog 107 [.pointer f0, .string dir0, .slice of_0a of_0l of_0c] h Q :=
  callsH_of (ann := fun i => bif Nat.beq i 0 then annOne 16 (codI .i64) else annNil) (tys := fun _ => []) (pl := fun _ => none) Try.func107 (by kernel_rfl) (by have e := F107_eq; exact (congrFun (congrFun (congrFun (congrFun (congrFun (congrFun (congrFun (e) f0) dir0) of_0a) of_0l) of_0c) h) Q).symm ▸ H)

/-- slices.Collect[string] -/
def F109 (seq0 : Value) (h : Heap) (Q : Value → Heap → Prop) : Prop :=
  CallsH Try.prog 134 [.slice none 0 0, seq0] h fun r0 h_0 =>
  DSl r0 fun x0a x0l x0c =>
  Q (.slice x0a x0l x0c) h_0
theorem F109_eq : (fun (seq0 : Value) (h : Heap) (Q : Value → Heap → Prop) => fnPT Try.prog Try.f109 (fun _ => annNil) (fun _ => []) (fun _ => none) [seq0] h Q) = F109 := by kernel_rfl
theorem F109_ok {seq0 : Value} {h : Heap} {Q : Value → Heap → Prop} (H : F109 seq0 h Q) : CallsH Try.prog 109 [seq0] h Q :=
  callsH_of (ann := fun _ => annNil) (tys := fun _ => []) (pl := fun _ => none) Try.func109 (by kernel_rfl) (by have e := F109_eq; exact (congrFun (congrFun (congrFun (e) seq0) h) Q).symm ▸ H)

/-- maps.Keys[headgate/simfs.names,string,*headgate/simfs.file]$1 -/
def F111 (yield0 : Value) (c0 : Addr) (h : Heap) (Q : Value → Heap → Prop) : Prop :=
  Ld h c0 fun v0 => DM v0 fun x0 =>
  RunH Try.prog (Instr.range 88 (.map x0)) h fun r0 h_0 =>
  DP r0 fun p0 =>
  LoopH (fun again0 (s0 : Unit) h_1 =>
    RunH Try.prog (Instr.next (.pointer p0) false 0) h_1 fun r1 h_2 =>
    (
      r1 = .tuple #[.bool false] ∧
      Q (.tuple #[]) h_2) ∨ (
      ∃ (k0 x1 : Value), r1 = .tuple #[.bool true, k0, x1] ∧
      RunH Try.prog (Instr.entry (.pointer p0)) h_2 fun r2 h_3 =>
      ∃ (x2 : ByteArray), ∃ (x3 : Value), r2 = .tuple #[.string x2, x3] ∧
      CallV Try.prog yield0 [.string x2] h_3 fun r3 h_4 =>
      DB r3 fun x4 =>
      (bif !x4 then
        Q (.tuple #[]) h_4
      else
        again0 () h_4))) () h_0
theorem F111_eq : (fun (yield0 : Value) (c0 : Addr) (h : Heap) (Q : Value → Heap → Prop) => fnPT Try.prog Try.f111 (fun i => bif Nat.beq i 0 then annNil else annNil) (fun i => bif Nat.beq i 1002 then [9, 0] else []) (fun _ => none) [yield0, .pointer (some c0)] h Q) = F111 := by kernel_rfl
theorem F111_ok {yield0 : Value} {c0 : Addr} {h : Heap} {Q : Value → Heap → Prop} (H : F111 yield0 c0 h Q) : CallsH Try.prog 111 [yield0, .pointer (some c0)] h Q :=
  callsH_of (ann := fun i => bif Nat.beq i 0 then annNil else annNil) (tys := fun i => bif Nat.beq i 1002 then [9, 0] else []) (pl := fun _ => none) Try.func111 (by kernel_rfl) (by have e := F111_eq; exact (congrFun (congrFun (congrFun (congrFun (e) yield0) c0) h) Q).symm ▸ H)

/-- maps.Keys[map[string]*headgate/simfs.folder,string,*headgate/simfs.folder]$1 -/
def F121 (yield0 : Value) (c0 : Addr) (h : Heap) (Q : Value → Heap → Prop) : Prop :=
  Ld h c0 fun v0 => DM v0 fun x0 =>
  RunH Try.prog (Instr.range 81 (.map x0)) h fun r0 h_0 =>
  DP r0 fun p0 =>
  LoopH (fun again0 (s0 : Unit) h_1 =>
    RunH Try.prog (Instr.next (.pointer p0) false 0) h_1 fun r1 h_2 =>
    (
      r1 = .tuple #[.bool false] ∧
      Q (.tuple #[]) h_2) ∨ (
      ∃ (k0 x1 : Value), r1 = .tuple #[.bool true, k0, x1] ∧
      RunH Try.prog (Instr.entry (.pointer p0)) h_2 fun r2 h_3 =>
      ∃ (x2 : ByteArray), ∃ (x3 : Value), r2 = .tuple #[.string x2, x3] ∧
      CallV Try.prog yield0 [.string x2] h_3 fun r3 h_4 =>
      DB r3 fun x4 =>
      (bif !x4 then
        Q (.tuple #[]) h_4
      else
        again0 () h_4))) () h_0
theorem F121_eq : (fun (yield0 : Value) (c0 : Addr) (h : Heap) (Q : Value → Heap → Prop) => fnPT Try.prog Try.f121 (fun i => bif Nat.beq i 0 then annNil else annNil) (fun i => bif Nat.beq i 1002 then [9, 0] else []) (fun _ => none) [yield0, .pointer (some c0)] h Q) = F121 := by kernel_rfl
theorem F121_ok {yield0 : Value} {c0 : Addr} {h : Heap} {Q : Value → Heap → Prop} (H : F121 yield0 c0 h Q) : CallsH Try.prog 121 [yield0, .pointer (some c0)] h Q :=
  callsH_of (ann := fun i => bif Nat.beq i 0 then annNil else annNil) (tys := fun i => bif Nat.beq i 1002 then [9, 0] else []) (pl := fun _ => none) Try.func121 (by kernel_rfl) (by have e := F121_eq; exact (congrFun (congrFun (congrFun (congrFun (e) yield0) c0) h) Q).symm ▸ H)

/-- headgate/simfs.name -/
def F133 (s0 : ByteArray) (h : Heap) (Q : Value → Heap → Prop) : Prop :=
  LoopH (fun again0 (s1 : Int) h_0 =>
    (bif decide ((s1 : Int) < ((s0 : ByteArray).size : Int)) then
      0 ≤ (s1 : Int) ∧ (s1 : Int) < ((s0 : ByteArray).size : Int) ∧
      (bif decide (((bt s0 s1) : Int) < 97) then
        (bif decide (((bt s0 s1) : Int) < 48) then
          (bif ((bt s0 s1) : Int) != 46 then
            Q (.bool false) h_0
          else
            again0 (IntKind.wrap .i64 (s1 + 1)) h_0)
        else
          (bif decide (((bt s0 s1) : Int) > 57) then
            (bif ((bt s0 s1) : Int) != 46 then
              Q (.bool false) h_0
            else
              again0 (IntKind.wrap .i64 (s1 + 1)) h_0)
          else
            again0 (IntKind.wrap .i64 (s1 + 1)) h_0))
      else
        (bif decide (((bt s0 s1) : Int) > 122) then
          (bif decide (((bt s0 s1) : Int) < 48) then
            (bif ((bt s0 s1) : Int) != 46 then
              Q (.bool false) h_0
            else
              again0 (IntKind.wrap .i64 (s1 + 1)) h_0)
          else
            (bif decide (((bt s0 s1) : Int) > 57) then
              (bif ((bt s0 s1) : Int) != 46 then
                Q (.bool false) h_0
              else
                again0 (IntKind.wrap .i64 (s1 + 1)) h_0)
            else
              again0 (IntKind.wrap .i64 (s1 + 1)) h_0))
        else
          again0 (IntKind.wrap .i64 (s1 + 1)) h_0))
    else
      (bif !strEq s0 .empty then
        Q (.bool (decide ((((s0 : ByteArray).size : Int) : Int) ≤ 32))) h_0
      else
        Q (.bool false) h_0))) 0 h
theorem F133_eq : (fun (s0 : ByteArray) (h : Heap) (Q : Value → Heap → Prop) => fnPT Try.prog Try.f133 (fun i => bif Nat.beq i 0 then annOne 7 (codI .i64) else annNil) (fun _ => []) (fun _ => none) [.string s0] h Q) = F133 := by kernel_rfl
theorem F133_ok {s0 : ByteArray} {h : Heap} {Q : Value → Heap → Prop} (H : F133 s0 h Q) : CallsH Try.prog 133 [.string s0] h Q :=
  callsH_of (ann := fun i => bif Nat.beq i 0 then annOne 7 (codI .i64) else annNil) (tys := fun _ => []) (pl := fun _ => none) Try.func133 (by kernel_rfl) (by have e := F133_eq; exact (congrFun (congrFun (congrFun (e) s0) h) Q).symm ▸ H)

/-- slices.AppendSeq[[]string,string] -/
def F134 (s0a : Option Addr) (s0l : Nat) (s0c : Nat) (seq0 : Value) (h : Heap) (Q : Value → Heap → Prop) : Prop :=
  Al h (.cells #[.slice s0a s0l s0c] 41) fun b0 h_0 =>
  RangeFn Try.prog seq0 1 none h_0 (fun l_0 rec_0 args0 h_1 Q_0 =>
    ∃ (y0 : ByteArray), args0 = [.string y0] ∧
    h_1[l_0]? = some (rec_0 .ready none) ∧
    Ld (h_1.setIfInBounds l_0 (rec_0 .busy none)) (Addr.mk b0 0 none) fun v0 => DSl v0 fun x0a x0l x0c =>
    Al (h_1.setIfInBounds l_0 (rec_0 .busy none)) (.cells #[.string y0] 9) fun b1 h_2 =>
    RunH Try.prog (Builtin.append_ #[41, 41] 41 #[.slice x0a x0l x0c, .slice (some (Addr.mk b1 0 none)) 1 1]) h_2 fun r2 h_3 =>
    DSl r2 fun x1a x1l x1c =>
    StC h_3 ((Addr.mk b0 0 none).add 0) (.slice x1a x1l x1c) fun h_5 =>
    h_5[l_0]? = some (rec_0 .busy none) ∧ Q_0 (.bool true) (h_5.setIfInBounds l_0 (rec_0 .ready none))) (fun pend0 h_6 =>
    pend0 = none ∧
    Ld h_6 (Addr.mk b0 0 none) fun v1 => DSl v1 fun x2a x2l x2c =>
    h_6[h_0.size]? = some (.deferred (some [])) ∧
    Q (.slice x2a x2l x2c) (h_6.setIfInBounds h_0.size (.deferred none)))
theorem F134_eq : (fun (s0a : Option Addr) (s0l : Nat) (s0c : Nat) (seq0 : Value) (h : Heap) (Q : Value → Heap → Prop) => fnPT Try.prog Try.f134 (fun _ => annNil) (fun i => bif Nat.beq i 0 then [9] else []) (fun _ => none) [.slice s0a s0l s0c, seq0] h Q) = F134 := by kernel_rfl
theorem F134_ok {s0a : Option Addr} {s0l : Nat} {s0c : Nat} {seq0 : Value} {h : Heap} {Q : Value → Heap → Prop} (H : F134 s0a s0l s0c seq0 h Q) : CallsH Try.prog 134 [.slice s0a s0l s0c, seq0] h Q :=
  callsH_of (ann := fun _ => annNil) (tys := fun i => bif Nat.beq i 0 then [9] else []) (pl := fun _ => none) Try.func134 (by kernel_rfl) (by have e := F134_eq; exact (congrFun (congrFun (congrFun (congrFun (congrFun (congrFun (e) s0a) s0l) s0c) seq0) h) Q).symm ▸ H)

end Go.Proofs.Yticjjdhaikbdaaa
