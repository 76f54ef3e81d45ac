/- The texts over heaps of functions of the program: written by a program of this claim's writer (decomp.py); Lean checks each against the code. -/
import Derived.Test.YticjjdhaikbdaaaGreatDoorSnFwA
import Derived.Test.YticjjdhaikbdaaaGreatDoorProg
namespace Go.Proofs.YticjjdhaikbdaaaGreatDoor
open Go Go.RowKit
set_option linter.unusedVariables false
set_option maxRecDepth 100000

/-- (*headgate/simfs.FS).find -/
def F111 (f0 : Option Addr) (dir0 : ByteArray) (of_0a : Option Addr) (of_0l : Nat) (of_0c : Nat) (h : Heap) (Q : Value → Heap → Prop) : Prop :=
  CallsH Tryz.prog 146 [.string dir0] h fun r0 h_0 =>
  DB r0 fun x0 =>
  (bif !x0 then
    Q (.tuple #[.pointer none, .int .i64 65]) h_0
  else
    LoopH (fun again0 (s0 : Int) h_1 =>
      (bif decide ((s0 : Int) < (of_0l : Int)) then
        IdxA of_0a of_0l s0 1 fun a0 =>
        Ld h_1 a0 fun v0 => DS v0 fun s1 =>
        CallsH Tryz.prog 146 [.string s1] h_1 fun r1 h_2 =>
        DB r1 fun x1 =>
        (bif !x1 then
          Q (.tuple #[.pointer none, .int .i64 65]) h_2
        else
          again0 (IntKind.wrap .i64 (s0 + 1)) h_2)
      else
        NN' f0 fun a1 =>
        Ld h_1 (a1.add 5) fun v1 => DM v1 fun x2 =>
        ∃ es0, mapEs h_1 x2 es0 ∧ ∃ f1, Instr.findNow .string (.string dir0) (es0 : Array MapEntry).toList 0 = some f1 ∧
        DP ((Option.map (fun x => x.2) f1).getD (.pointer none)) fun d0 =>
        (bif (d0).isNone then
          Q (.tuple #[.pointer none, .int .i64 61]) h_1
        else
          Q (.tuple #[.pointer d0, .int .i64 0]) h_1))) 0 h_0)
theorem F111_eq : (fun (f0 : Option Addr) (dir0 : ByteArray) (of_0a : Option Addr) (of_0l : Nat) (of_0c : Nat) (h : Heap) (Q : Value → Heap → Prop) => fnPT Tryz.prog Tryz.f111 (fun i => bif Nat.beq i 0 then annOne 16 (codI .i64) else annNil) (fun _ => []) (fun _ => none) [.pointer f0, .string dir0, .slice of_0a of_0l of_0c] h Q) = F111 := by kernel_rfl
theorem F111_ok {f0 : Option Addr} {dir0 : ByteArray} {of_0a : Option Addr} {of_0l : Nat} {of_0c : Nat} {h : Heap} {Q : Value → Heap → Prop} (H : F111 f0 dir0 of_0a of_0l of_0c h Q) : CallsH Tryz.prog 111 [.pointer f0, .string dir0, .slice of_0a of_0l of_0c] h Q :=
  callsH_of (ann := fun i => bif Nat.beq i 0 then annOne 16 (codI .i64) else annNil) (tys := fun _ => []) (pl := fun _ => none) Tryz.func111 (by kernel_rfl) (by have e := F111_eq; exact (congrFun (congrFun (congrFun (congrFun (congrFun (congrFun (congrFun (e) f0) dir0) of_0a) of_0l) of_0c) h) Q).symm ▸ H)

/-- slices.Collect[string] -/
def F143 (seq0 : Value) (h : Heap) (Q : Value → Heap → Prop) : Prop :=
  CallsH Tryz.prog 169 [.slice none 0 0, seq0] h fun r0 h_0 =>
  DSl r0 fun x0a x0l x0c =>
  Q (.slice x0a x0l x0c) h_0
theorem F143_eq : (fun (seq0 : Value) (h : Heap) (Q : Value → Heap → Prop) => fnPT Tryz.prog Tryz.f143 (fun _ => annNil) (fun _ => []) (fun _ => none) [seq0] h Q) = F143 := by kernel_rfl
theorem F143_ok {seq0 : Value} {h : Heap} {Q : Value → Heap → Prop} (H : F143 seq0 h Q) : CallsH Tryz.prog 143 [seq0] h Q :=
  callsH_of (ann := fun _ => annNil) (tys := fun _ => []) (pl := fun _ => none) Tryz.func143 (by kernel_rfl) (by have e := F143_eq; exact (congrFun (congrFun (congrFun (e) seq0) h) Q).symm ▸ H)

/-- maps.Keys[headgate/simfs.names,string,*headgate/simfs.file]$1 -/
def F145 (yield0 : Value) (c0 : Addr) (h : Heap) (Q : Value → Heap → Prop) : Prop :=
  Ld h c0 fun v0 => DM v0 fun x0 =>
  RunH Tryz.prog (Instr.range 174 (.map x0)) h fun r0 h_0 =>
  DP r0 fun p0 =>
  LoopH (fun again0 (s0 : Unit) h_1 =>
    RunH Tryz.prog (Instr.next (.pointer p0) false 0) h_1 fun r1 h_2 =>
    (
      r1 = .tuple #[.bool false] ∧
      Q (.tuple #[]) h_2) ∨ (
      ∃ (k0 x1 : Value), r1 = .tuple #[.bool true, k0, x1] ∧
      RunH Tryz.prog (Instr.entry (.pointer p0)) h_2 fun r2 h_3 =>
      ∃ (x2 : ByteArray), ∃ (x3 : Value), r2 = .tuple #[.string x2, x3] ∧
      CallV Tryz.prog yield0 [.string x2] h_3 fun r3 h_4 =>
      DB r3 fun x4 =>
      (bif !x4 then
        Q (.tuple #[]) h_4
      else
        again0 () h_4))) () h_0
theorem F145_eq : (fun (yield0 : Value) (c0 : Addr) (h : Heap) (Q : Value → Heap → Prop) => fnPT Tryz.prog Tryz.f145 (fun i => bif Nat.beq i 0 then annNil else annNil) (fun i => bif Nat.beq i 1002 then [9, 0] else []) (fun _ => none) [yield0, .pointer (some c0)] h Q) = F145 := by kernel_rfl
theorem F145_ok {yield0 : Value} {c0 : Addr} {h : Heap} {Q : Value → Heap → Prop} (H : F145 yield0 c0 h Q) : CallsH Tryz.prog 145 [yield0, .pointer (some c0)] h Q :=
  callsH_of (ann := fun i => bif Nat.beq i 0 then annNil else annNil) (tys := fun i => bif Nat.beq i 1002 then [9, 0] else []) (pl := fun _ => none) Tryz.func145 (by kernel_rfl) (by have e := F145_eq; exact (congrFun (congrFun (congrFun (congrFun (e) yield0) c0) h) Q).symm ▸ H)

/-- headgate/place.unfinished$1 -/
def F172 (yield0 : Value) (c0 : Addr) (h : Heap) (Q : Value → Heap → Prop) : Prop :=
  Ld h c0 fun v0 => DSl v0 fun x0a x0l x0c =>
  LoopH (fun again0 (s0 : Int) h_0 =>
    (bif decide ((s0 : Int) < (x0l : Int)) then
      IdxA x0a x0l s0 1 fun a0 =>
      Ld h_0 a0 fun v1 => DS v1 fun s1 =>
      CallsH Tryz.prog 173 [.string s1, .string ⟨#[116, 109, 112, 46]⟩] h_0 fun r0 h_1 =>
      DB r0 fun x1 =>
      (bif x1 then
        CallV Tryz.prog yield0 [.string s1] h_1 fun r1 h_2 =>
        DB r1 fun x2 =>
        (bif !x2 then
          Q (.tuple #[]) h_2
        else
          again0 (IntKind.wrap .i64 (s0 + 1)) h_2)
      else
        again0 (IntKind.wrap .i64 (s0 + 1)) h_1)
    else
      Q (.tuple #[]) h_0)) 0 h
theorem F172_eq : (fun (yield0 : Value) (c0 : Addr) (h : Heap) (Q : Value → Heap → Prop) => fnPT Tryz.prog Tryz.f172 (fun i => bif Nat.beq i 0 then annOne 7 (codI .i64) else annNil) (fun _ => []) (fun _ => none) [yield0, .pointer (some c0)] h Q) = F172 := by kernel_rfl
theorem F172_ok {yield0 : Value} {c0 : Addr} {h : Heap} {Q : Value → Heap → Prop} (H : F172 yield0 c0 h Q) : CallsH Tryz.prog 172 [yield0, .pointer (some c0)] h Q :=
  callsH_of (ann := fun i => bif Nat.beq i 0 then annOne 7 (codI .i64) else annNil) (tys := fun _ => []) (pl := fun _ => none) Tryz.func172 (by kernel_rfl) (by have e := F172_eq; exact (congrFun (congrFun (congrFun (congrFun (e) yield0) c0) h) Q).symm ▸ H)

/-- strings.HasPrefix -/
def F173 (s0 : ByteArray) (prefix_0 : ByteArray) (h : Heap) (Q : Value → Heap → Prop) : Prop :=
  CallsH Tryz.prog 175 [.string s0, .string prefix_0] h fun r0 h_0 =>
  DB r0 fun x0 =>
  Q (.bool x0) h_0
theorem F173_eq : (fun (s0 : ByteArray) (prefix_0 : ByteArray) (h : Heap) (Q : Value → Heap → Prop) => fnPT Tryz.prog Tryz.f173 (fun _ => annNil) (fun _ => []) (fun _ => none) [.string s0, .string prefix_0] h Q) = F173 := by kernel_rfl
theorem F173_ok {s0 : ByteArray} {prefix_0 : ByteArray} {h : Heap} {Q : Value → Heap → Prop} (H : F173 s0 prefix_0 h Q) : CallsH Tryz.prog 173 [.string s0, .string prefix_0] h Q :=
  callsH_of (ann := fun _ => annNil) (tys := fun _ => []) (pl := fun _ => none) Tryz.func173 (by kernel_rfl) (by have e := F173_eq; exact (congrFun (congrFun (congrFun (congrFun (e) s0) prefix_0) h) Q).symm ▸ H)

/-- headgate/frame.word -/
def F129 (n0 : Int) (h : Heap) (Q : Value → Heap → Prop) : Prop :=
  0 ≤ (24 : Int) ∧
  0 ≤ (16 : Int) ∧
  0 ≤ (8 : Int) ∧
  Al h (.cells #[.int .u8 (IntKind.wrap .u8 (shrI .u32 n0 24)), .int .u8 (IntKind.wrap .u8 (shrI .u32 n0 16)), .int .u8 (IntKind.wrap .u8 (shrI .u32 n0 8)), .int .u8 (IntKind.wrap .u8 n0)] 5) fun b0 h_0 =>
  Q (.slice (some (Addr.mk b0 0 none)) 4 4) h_0
theorem F129_eq : (fun (n0 : Int) (h : Heap) (Q : Value → Heap → Prop) => fnPT Tryz.prog Tryz.f129 (fun _ => annNil) (fun _ => []) (fun _ => none) [.int .u32 n0] h Q) = F129 := by kernel_rfl
theorem F129_ok {n0 : Int} {h : Heap} {Q : Value → Heap → Prop} (H : F129 n0 h Q) : CallsH Tryz.prog 129 [.int .u32 n0] h Q :=
  callsH_of (ann := fun _ => annNil) (tys := fun _ => []) (pl := fun _ => none) Tryz.func129 (by kernel_rfl) (by have e := F129_eq; exact (congrFun (congrFun (congrFun (e) n0) h) Q).symm ▸ H)

/-- headgate/crc.More[[]byte] -/
def F130 (sum0 : Int) (b0a : Option Addr) (b0l : Nat) (b0c : Nat) (h : Heap) (Q : Value → Heap → Prop) : Prop :=
  LoopH (fun again0 (s0 : Int × Int) h_0 =>
    (bif decide ((s0.2 : Int) < (b0l : Int)) then
      IdxA b0a b0l s0.2 1 fun a0 =>
      Ld h_0 a0 fun v0 => DI .u8 v0 fun x0 =>
      LoopH (fun again1 (s1 : Int × Int) h_1 =>
        (bif decide ((s1.2 : Int) < 8) then
          0 ≤ (1 : Int) ∧
          again1 (bitsI .xor .u32 (shrI .u32 s1.1 1) (bitsI .and .u32 2197175160 (IntKind.wrap .u32 (0 - (bitsI .and .u32 s1.1 1)))), IntKind.wrap .i64 (s1.2 + 1)) h_1
        else
          again0 (s1.1, IntKind.wrap .i64 (s0.2 + 1)) h_1)) (bitsI .xor .u32 s0.1 (IntKind.wrap .u32 x0), 0) h_0
    else
      Q (.int .u32 (bitsI .xor .u32 4294967295 s0.1)) h_0)) (bitsI .xor .u32 4294967295 sum0, 0) h
theorem F130_eq : (fun (sum0 : Int) (b0a : Option Addr) (b0l : Nat) (b0c : Nat) (h : Heap) (Q : Value → Heap → Prop) => fnPT Tryz.prog Tryz.f130 (fun i => bif Nat.beq i 0 then annCons 5 (codI .u32) (annOne 11 (codI .i64)) else bif Nat.beq i 2 then annCons 5 (codI .u32) (annOne 21 (codI .i64)) else annNil) (fun _ => []) (fun _ => none) [.int .u32 sum0, .slice b0a b0l b0c] h Q) = F130 := by kernel_rfl
theorem F130_ok {sum0 : Int} {b0a : Option Addr} {b0l : Nat} {b0c : Nat} {h : Heap} {Q : Value → Heap → Prop} (H : F130 sum0 b0a b0l b0c h Q) : CallsH Tryz.prog 130 [.int .u32 sum0, .slice b0a b0l b0c] h Q :=
  callsH_of (ann := fun i => bif Nat.beq i 0 then annCons 5 (codI .u32) (annOne 11 (codI .i64)) else bif Nat.beq i 2 then annCons 5 (codI .u32) (annOne 21 (codI .i64)) else annNil) (tys := fun _ => []) (pl := fun _ => none) Tryz.func130 (by kernel_rfl) (by have e := F130_eq; exact (congrFun (congrFun (congrFun (congrFun (congrFun (congrFun (e) sum0) b0a) b0l) b0c) h) Q).symm ▸ H)

/-- headgate/crc.Of[[]byte] -/
def F131 (b0a : Option Addr) (b0l : Nat) (b0c : Nat) (h : Heap) (Q : Value → Heap → Prop) : Prop :=
  CallsH Tryz.prog 130 [.int .u32 0, .slice b0a b0l b0c] h fun r0 h_0 =>
  DI .u32 r0 fun x0 =>
  Q (.int .u32 x0) h_0
theorem F131_eq : (fun (b0a : Option Addr) (b0l : Nat) (b0c : Nat) (h : Heap) (Q : Value → Heap → Prop) => fnPT Tryz.prog Tryz.f131 (fun _ => annNil) (fun _ => []) (fun _ => none) [.slice b0a b0l b0c] h Q) = F131 := by kernel_rfl
theorem F131_ok {b0a : Option Addr} {b0l : Nat} {b0c : Nat} {h : Heap} {Q : Value → Heap → Prop} (H : F131 b0a b0l b0c h Q) : CallsH Tryz.prog 131 [.slice b0a b0l b0c] h Q :=
  callsH_of (ann := fun _ => annNil) (tys := fun _ => []) (pl := fun _ => none) Tryz.func131 (by kernel_rfl) (by have e := F131_eq; exact (congrFun (congrFun (congrFun (congrFun (congrFun (e) b0a) b0l) b0c) h) Q).symm ▸ H)

/-- headgate/simfs.name -/
def F146 (s0 : ByteArray) (h : Heap) (Q : Value → Heap → Prop) : Prop :=
  LoopH (fun again0 (s1 : Int) h_0 =>
    (bif decide ((s1 : Int) < ((s0 : ByteArray).size : Int)) then
      0 ≤ (s1 : Int) ∧ (s1 : Int) < ((s0 : ByteArray).size : Int) ∧
      (bif decide (((bt s0 s1) : Int) < 97) then
        (bif decide (((bt s0 s1) : Int) < 48) then
          (bif ((bt s0 s1) : Int) != 46 then
            Q (.bool false) h_0
          else
            again0 (IntKind.wrap .i64 (s1 + 1)) h_0)
        else
          (bif decide (((bt s0 s1) : Int) > 57) then
            (bif ((bt s0 s1) : Int) != 46 then
              Q (.bool false) h_0
            else
              again0 (IntKind.wrap .i64 (s1 + 1)) h_0)
          else
            again0 (IntKind.wrap .i64 (s1 + 1)) h_0))
      else
        (bif decide (((bt s0 s1) : Int) > 122) then
          (bif decide (((bt s0 s1) : Int) < 48) then
            (bif ((bt s0 s1) : Int) != 46 then
              Q (.bool false) h_0
            else
              again0 (IntKind.wrap .i64 (s1 + 1)) h_0)
          else
            (bif decide (((bt s0 s1) : Int) > 57) then
              (bif ((bt s0 s1) : Int) != 46 then
                Q (.bool false) h_0
              else
                again0 (IntKind.wrap .i64 (s1 + 1)) h_0)
            else
              again0 (IntKind.wrap .i64 (s1 + 1)) h_0))
        else
          again0 (IntKind.wrap .i64 (s1 + 1)) h_0))
    else
      (bif !strEq s0 .empty then
        Q (.bool (decide ((((s0 : ByteArray).size : Int) : Int) ≤ 32))) h_0
      else
        Q (.bool false) h_0))) 0 h
theorem F146_eq : (fun (s0 : ByteArray) (h : Heap) (Q : Value → Heap → Prop) => fnPT Tryz.prog Tryz.f146 (fun i => bif Nat.beq i 0 then annOne 7 (codI .i64) else annNil) (fun _ => []) (fun _ => none) [.string s0] h Q) = F146 := by kernel_rfl
theorem F146_ok {s0 : ByteArray} {h : Heap} {Q : Value → Heap → Prop} (H : F146 s0 h Q) : CallsH Tryz.prog 146 [.string s0] h Q :=
  callsH_of (ann := fun i => bif Nat.beq i 0 then annOne 7 (codI .i64) else annNil) (tys := fun _ => []) (pl := fun _ => none) Tryz.func146 (by kernel_rfl) (by have e := F146_eq; exact (congrFun (congrFun (congrFun (e) s0) h) Q).symm ▸ H)

/-- slices.AppendSeq[[]string,string] -/
def F169 (s0a : Option Addr) (s0l : Nat) (s0c : Nat) (seq0 : Value) (h : Heap) (Q : Value → Heap → Prop) : Prop :=
  Al h (.cells #[.slice s0a s0l s0c] 116) fun b0 h_0 =>
  RangeFn Tryz.prog seq0 1 none h_0 (fun l_0 rec_0 args0 h_1 Q_0 =>
    ∃ (y0 : ByteArray), args0 = [.string y0] ∧
    h_1[l_0]? = some (rec_0 .ready none) ∧
    Ld (h_1.setIfInBounds l_0 (rec_0 .busy none)) (Addr.mk b0 0 none) fun v0 => DSl v0 fun x0a x0l x0c =>
    Al (h_1.setIfInBounds l_0 (rec_0 .busy none)) (.cells #[.string y0] 9) fun b1 h_2 =>
    RunH Tryz.prog (Builtin.append_ #[116, 116] 116 #[.slice x0a x0l x0c, .slice (some (Addr.mk b1 0 none)) 1 1]) h_2 fun r2 h_3 =>
    DSl r2 fun x1a x1l x1c =>
    StC h_3 ((Addr.mk b0 0 none).add 0) (.slice x1a x1l x1c) fun h_5 =>
    h_5[l_0]? = some (rec_0 .busy none) ∧ Q_0 (.bool true) (h_5.setIfInBounds l_0 (rec_0 .ready none))) (fun pend0 h_6 =>
    pend0 = none ∧
    Ld h_6 (Addr.mk b0 0 none) fun v1 => DSl v1 fun x2a x2l x2c =>
    h_6[h_0.size]? = some (.deferred (some [])) ∧
    Q (.slice x2a x2l x2c) (h_6.setIfInBounds h_0.size (.deferred none)))
theorem F169_eq : (fun (s0a : Option Addr) (s0l : Nat) (s0c : Nat) (seq0 : Value) (h : Heap) (Q : Value → Heap → Prop) => fnPT Tryz.prog Tryz.f169 (fun _ => annNil) (fun i => bif Nat.beq i 0 then [9] else []) (fun _ => none) [.slice s0a s0l s0c, seq0] h Q) = F169 := by kernel_rfl
theorem F169_ok {s0a : Option Addr} {s0l : Nat} {s0c : Nat} {seq0 : Value} {h : Heap} {Q : Value → Heap → Prop} (H : F169 s0a s0l s0c seq0 h Q) : CallsH Tryz.prog 169 [.slice s0a s0l s0c, seq0] h Q :=
  callsH_of (ann := fun _ => annNil) (tys := fun i => bif Nat.beq i 0 then [9] else []) (pl := fun _ => none) Tryz.func169 (by kernel_rfl) (by have e := F169_eq; exact (congrFun (congrFun (congrFun (congrFun (congrFun (congrFun (e) s0a) s0l) s0c) seq0) h) Q).symm ▸ H)

/-- internal/stringslite.HasPrefix -/
def F175 (s0 : ByteArray) (prefix_0 : ByteArray) (h : Heap) (Q : Value → Heap → Prop) : Prop :=
  (bif decide ((((s0 : ByteArray).size : Int) : Int) ≥ ((prefix_0 : ByteArray).size : Int)) then
    SlS s0 0 ((prefix_0 : ByteArray).size : Int) fun s1 =>
    Q (.bool (strEq s1 prefix_0)) h
  else
    Q (.bool false) h)
theorem F175_eq : (fun (s0 : ByteArray) (prefix_0 : ByteArray) (h : Heap) (Q : Value → Heap → Prop) => fnPT Tryz.prog Tryz.f175 (fun _ => annNil) (fun _ => []) (fun _ => none) [.string s0, .string prefix_0] h Q) = F175 := by kernel_rfl
theorem F175_ok {s0 : ByteArray} {prefix_0 : ByteArray} {h : Heap} {Q : Value → Heap → Prop} (H : F175 s0 prefix_0 h Q) : CallsH Tryz.prog 175 [.string s0, .string prefix_0] h Q :=
  callsH_of (ann := fun _ => annNil) (tys := fun _ => []) (pl := fun _ => none) Tryz.func175 (by kernel_rfl) (by have e := F175_eq; exact (congrFun (congrFun (congrFun (congrFun (e) s0) prefix_0) h) Q).symm ▸ H)

end Go.Proofs.YticjjdhaikbdaaaGreatDoor
