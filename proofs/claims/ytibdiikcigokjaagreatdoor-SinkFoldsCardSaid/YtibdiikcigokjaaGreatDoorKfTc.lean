/- The texts over heaps of functions of the program: written by a program of this claim's writer (decomp.py); Lean checks each against the code. -/
import Derived.Test.YtibdiikcigokjaaGreatDoorKfFwA
import Derived.Test.YtibdiikcigokjaaGreatDoorProg
namespace Go.Proofs.YtibdiikcigokjaaGreatDoor
open Go Go.RowKit
set_option linter.unusedVariables false
set_option maxRecDepth 100000

/-- (*headgate/simfs.FS).find -/
def F144 (f0 : Option Addr) (dir0 : ByteArray) (of_0a : Option Addr) (of_0l : Nat) (of_0c : Nat) (h : Heap) (Q : Value → Heap → Prop) : Prop :=
 CallsH Tryz.prog 215 [.string dir0] h fun r0 h_0 =>
 DB r0 fun x0 =>
 (bif !x0 then
  Q (.tuple #[.pointer none, .int .i64 65]) h_0
 else
  LoopH (fun again0 (s0 : Int) h_1 =>
   (bif decide ((s0 : Int) < (of_0l : Int)) then
    IdxA of_0a of_0l s0 1 fun a0 =>
    Ld h_1 a0 fun v0 => DS v0 fun s1 =>
    CallsH Tryz.prog 215 [.string s1] h_1 fun r1 h_2 =>
    DB r1 fun x1 =>
    (bif !x1 then
     Q (.tuple #[.pointer none, .int .i64 65]) h_2
    else
     again0 (IntKind.wrap .i64 (s0 + 1)) h_2)
   else
    NN' f0 fun a1 =>
    Ld h_1 (a1.add 5) fun v1 => DM v1 fun x2 =>
    ∃ es0, mapEs h_1 x2 es0 ∧ ∃ f1, Instr.findNow .string (.string dir0) (es0 : Array MapEntry).toList 0 = some f1 ∧
    DP ((Option.map (fun x => x.2) f1).getD (.pointer none)) fun d0 =>
    (bif (d0).isNone then
     Q (.tuple #[.pointer none, .int .i64 61]) h_1
    else
     Q (.tuple #[.pointer d0, .int .i64 0]) h_1))) 0 h_0)
theorem F144_eq : (fun (f0 : Option Addr) (dir0 : ByteArray) (of_0a : Option Addr) (of_0l : Nat) (of_0c : Nat) (h : Heap) (Q : Value → Heap → Prop) => fnPT Tryz.prog Tryz.f144 (fun i => bif Nat.beq i 0 then annOne 16 (codI .i64) else annNil) (fun _ => []) (fun _ => none) [.pointer f0, .string dir0, .slice of_0a of_0l of_0c] h Q) = F144 := by kernel_rfl
theorem F144_ok {f0 : Option Addr} {dir0 : ByteArray} {of_0a : Option Addr} {of_0l : Nat} {of_0c : Nat} {h : Heap} {Q : Value → Heap → Prop} (H : F144 f0 dir0 of_0a of_0l of_0c h Q) : CallsH Tryz.prog 144 [.pointer f0, .string dir0, .slice of_0a of_0l of_0c] h Q :=
 callsH_of (ann := fun i => bif Nat.beq i 0 then annOne 16 (codI .i64) else annNil) (tys := fun _ => []) (pl := fun _ => none) Tryz.func144 (by kernel_rfl) (by have e := F144_eq; exact (congrFun (congrFun (congrFun (congrFun (congrFun (congrFun (congrFun (e) f0) dir0) of_0a) of_0l) of_0c) h) Q).symm ▸ H)

/-- slices.Collect[string] -/
def F145 (seq0 : Value) (h : Heap) (Q : Value → Heap → Prop) : Prop :=
 CallsH Tryz.prog 216 [.slice none 0 0, seq0] h fun r0 h_0 =>
 DSl r0 fun x0a x0l x0c =>
 Q (.slice x0a x0l x0c) h_0
theorem F145_eq : (fun (seq0 : Value) (h : Heap) (Q : Value → Heap → Prop) => fnPT Tryz.prog Tryz.f145 (fun _ => annNil) (fun _ => []) (fun _ => none) [seq0] h Q) = F145 := by kernel_rfl
theorem F145_ok {seq0 : Value} {h : Heap} {Q : Value → Heap → Prop} (H : F145 seq0 h Q) : CallsH Tryz.prog 145 [seq0] h Q :=
 callsH_of (ann := fun _ => annNil) (tys := fun _ => []) (pl := fun _ => none) Tryz.func145 (by kernel_rfl) (by have e := F145_eq; exact (congrFun (congrFun (congrFun (e) seq0) h) Q).symm ▸ H)

/-- maps.Keys[headgate/simfs.names,string,*headgate/simfs.file]$1 -/
def F147 (yield0 : Value) (c0 : Addr) (h : Heap) (Q : Value → Heap → Prop) : Prop :=
 Ld h c0 fun v0 => DM v0 fun x0 =>
 RunH Tryz.prog (Instr.range 130 (.map x0)) h fun r0 h_0 =>
 DP r0 fun p0 =>
 LoopH (fun again0 (s0 : Unit) h_1 =>
  RunH Tryz.prog (Instr.next (.pointer p0) false 0) h_1 fun r1 h_2 =>
  (
   r1 = .tuple #[.bool false] ∧
   Q (.tuple #[]) h_2) ∨ (
   ∃ (k0 x1 : Value), r1 = .tuple #[.bool true, k0, x1] ∧
   RunH Tryz.prog (Instr.entry (.pointer p0)) h_2 fun r2 h_3 =>
   ∃ (x2 : ByteArray), ∃ (x3 : Value), r2 = .tuple #[.string x2, x3] ∧
   CallV Tryz.prog yield0 [.string x2] h_3 fun r3 h_4 =>
   DB r3 fun x4 =>
   (bif !x4 then
    Q (.tuple #[]) h_4
   else
    again0 () h_4))) () h_0
theorem F147_eq : (fun (yield0 : Value) (c0 : Addr) (h : Heap) (Q : Value → Heap → Prop) => fnPT Tryz.prog Tryz.f147 (fun i => bif Nat.beq i 0 then annNil else annNil) (fun i => bif Nat.beq i 1002 then [9, 0] else []) (fun _ => none) [yield0, .pointer (some c0)] h Q) = F147 := by kernel_rfl
theorem F147_ok {yield0 : Value} {c0 : Addr} {h : Heap} {Q : Value → Heap → Prop} (H : F147 yield0 c0 h Q) : CallsH Tryz.prog 147 [yield0, .pointer (some c0)] h Q :=
 callsH_of (ann := fun i => bif Nat.beq i 0 then annNil else annNil) (tys := fun i => bif Nat.beq i 1002 then [9, 0] else []) (pl := fun _ => none) Tryz.func147 (by kernel_rfl) (by have e := F147_eq; exact (congrFun (congrFun (congrFun (congrFun (e) yield0) c0) h) Q).symm ▸ H)

/-- headgate/frame.first -/
def F185 (b0a : Option Addr) (b0l : Nat) (b0c : Nat) (h : Heap) (Q : Value → Heap → Prop) : Prop :=
 (bif decide (((b0l : Int) : Int) < 8) then
  Q (.tuple #[.slice none 0 0, .bool false]) h
 else
  CallsH Tryz.prog 229 [.slice b0a b0l b0c] h fun r0 h_0 =>
  DI .u32 r0 fun n0 =>
  (bif decide ((n0 : Int) > 16777208) then
   Q (.tuple #[.slice none 0 0, .bool false]) h_0
  else
   (bif decide (((IntKind.wrap .i64 n0) : Int) > (IntKind.wrap .i64 ((b0l : Int) - 8))) then
    Q (.tuple #[.slice none 0 0, .bool false]) h_0
   else
    SlV b0a b0c 1 8 (IntKind.wrap .i64 (8 + (IntKind.wrap .i64 n0))) (b0c : Int) fun s0a s0l s0c =>
    SlV b0a b0c 1 4 (b0l : Int) (b0c : Int) fun s1a s1l s1c =>
    ∃ r2, (CallsH Tryz.prog 229 [.slice s1a s1l s1c] h_0 fun r1 h_1 =>
    r1 = r2 ∧ h_1 = h_0) ∧
    DI .u32 r2 fun x0 =>
    SlV b0a b0c 1 0 4 (b0c : Int) fun s2a s2l s2c =>
    ∃ r4, (CallsH Tryz.prog 36 [.slice s2a s2l s2c] h_0 fun r3 h_2 =>
    r3 = r4 ∧ h_2 = h_0) ∧
    DI .u32 r4 fun x1 =>
    ∃ r6, (CallsH Tryz.prog 115 [.int .u32 x1, .slice s0a s0l s0c] h_0 fun r5 h_3 =>
    r5 = r6 ∧ h_3 = h_0) ∧
    DI .u32 r6 fun x2 =>
    Q (.tuple #[.slice s0a s0l s0c, .bool ((x0 : Int) == x2)]) h_0)))
theorem F185_eq : (fun (b0a : Option Addr) (b0l : Nat) (b0c : Nat) (h : Heap) (Q : Value → Heap → Prop) => fnPT Tryz.prog Tryz.f185 (fun _ => annNil) (fun _ => []) (fun _ => none) [.slice b0a b0l b0c] h Q) = F185 := by kernel_rfl
theorem F185_ok {b0a : Option Addr} {b0l : Nat} {b0c : Nat} {h : Heap} {Q : Value → Heap → Prop} (H : F185 b0a b0l b0c h Q) : CallsH Tryz.prog 185 [.slice b0a b0l b0c] h Q :=
 callsH_of (ann := fun _ => annNil) (tys := fun _ => []) (pl := fun _ => none) Tryz.func185 (by kernel_rfl) (by have e := F185_eq; exact (congrFun (congrFun (congrFun (congrFun (congrFun (e) b0a) b0l) b0c) h) Q).symm ▸ H)

/-- headgate/place.unfinished$1 -/
def F254 (yield0 : Value) (c0 : Addr) (h : Heap) (Q : Value → Heap → Prop) : Prop :=
 Ld h c0 fun v0 => DSl v0 fun x0a x0l x0c =>
 LoopH (fun again0 (s0 : Int) h_0 =>
  (bif decide ((s0 : Int) < (x0l : Int)) then
   IdxA x0a x0l s0 1 fun a0 =>
   Ld h_0 a0 fun v1 => DS v1 fun s1 =>
   CallsH Tryz.prog 255 [.string s1, .string ⟨#[116, 109, 112, 46]⟩] h_0 fun r0 h_1 =>
   DB r0 fun x1 =>
   (bif x1 then
    CallV Tryz.prog yield0 [.string s1] h_1 fun r1 h_2 =>
    DB r1 fun x2 =>
    (bif !x2 then
     Q (.tuple #[]) h_2
    else
     again0 (IntKind.wrap .i64 (s0 + 1)) h_2)
   else
    again0 (IntKind.wrap .i64 (s0 + 1)) h_1)
  else
   Q (.tuple #[]) h_0)) 0 h
theorem F254_eq : (fun (yield0 : Value) (c0 : Addr) (h : Heap) (Q : Value → Heap → Prop) => fnPT Tryz.prog Tryz.f254 (fun i => bif Nat.beq i 0 then annOne 7 (codI .i64) else annNil) (fun _ => []) (fun _ => none) [yield0, .pointer (some c0)] h Q) = F254 := by kernel_rfl
theorem F254_ok {yield0 : Value} {c0 : Addr} {h : Heap} {Q : Value → Heap → Prop} (H : F254 yield0 c0 h Q) : CallsH Tryz.prog 254 [yield0, .pointer (some c0)] h Q :=
 callsH_of (ann := fun i => bif Nat.beq i 0 then annOne 7 (codI .i64) else annNil) (tys := fun _ => []) (pl := fun _ => none) Tryz.func254 (by kernel_rfl) (by have e := F254_eq; exact (congrFun (congrFun (congrFun (congrFun (e) yield0) c0) h) Q).symm ▸ H)

/-- strings.HasPrefix -/
def F255 (s0 : ByteArray) (prefix_0 : ByteArray) (h : Heap) (Q : Value → Heap → Prop) : Prop :=
 CallsH Tryz.prog 278 [.string s0, .string prefix_0] h fun r0 h_0 =>
 DB r0 fun x0 =>
 Q (.bool x0) h_0
theorem F255_eq : (fun (s0 : ByteArray) (prefix_0 : ByteArray) (h : Heap) (Q : Value → Heap → Prop) => fnPT Tryz.prog Tryz.f255 (fun _ => annNil) (fun _ => []) (fun _ => none) [.string s0, .string prefix_0] h Q) = F255 := by kernel_rfl
theorem F255_ok {s0 : ByteArray} {prefix_0 : ByteArray} {h : Heap} {Q : Value → Heap → Prop} (H : F255 s0 prefix_0 h Q) : CallsH Tryz.prog 255 [.string s0, .string prefix_0] h Q :=
 callsH_of (ann := fun _ => annNil) (tys := fun _ => []) (pl := fun _ => none) Tryz.func255 (by kernel_rfl) (by have e := F255_eq; exact (congrFun (congrFun (congrFun (congrFun (e) s0) prefix_0) h) Q).symm ▸ H)

/-- headgate/frame.word -/
def F206 (n0 : Int) (h : Heap) (Q : Value → Heap → Prop) : Prop :=
 0 ≤ (24 : Int) ∧
 0 ≤ (16 : Int) ∧
 0 ≤ (8 : Int) ∧
 Al h (.cells #[.int .u8 (IntKind.wrap .u8 (shrI .u32 n0 24)), .int .u8 (IntKind.wrap .u8 (shrI .u32 n0 16)), .int .u8 (IntKind.wrap .u8 (shrI .u32 n0 8)), .int .u8 (IntKind.wrap .u8 n0)] 5) fun b0 h_0 =>
 Q (.slice (some (Addr.mk b0 0 none)) 4 4) h_0
theorem F206_eq : (fun (n0 : Int) (h : Heap) (Q : Value → Heap → Prop) => fnPT Tryz.prog Tryz.f206 (fun _ => annNil) (fun _ => []) (fun _ => none) [.int .u32 n0] h Q) = F206 := by kernel_rfl
theorem F206_ok {n0 : Int} {h : Heap} {Q : Value → Heap → Prop} (H : F206 n0 h Q) : CallsH Tryz.prog 206 [.int .u32 n0] h Q :=
 callsH_of (ann := fun _ => annNil) (tys := fun _ => []) (pl := fun _ => none) Tryz.func206 (by kernel_rfl) (by have e := F206_eq; exact (congrFun (congrFun (congrFun (e) n0) h) Q).symm ▸ H)

/-- headgate/crc.More[[]byte] -/
def F115 (sum0 : Int) (b0a : Option Addr) (b0l : Nat) (b0c : Nat) (h : Heap) (Q : Value → Heap → Prop) : Prop :=
 LoopH (fun again0 (s0 : Int × Int) h_0 =>
  (bif decide ((s0.2 : Int) < (b0l : Int)) then
   IdxA b0a b0l s0.2 1 fun a0 =>
   Ld h_0 a0 fun v0 => DI .u8 v0 fun x0 =>
   LoopH (fun again1 (s1 : Int × Int) h_1 =>
    (bif decide ((s1.2 : Int) < 8) then
     0 ≤ (1 : Int) ∧
     again1 (bitsI .xor .u32 (shrI .u32 s1.1 1) (bitsI .and .u32 2197175160 (IntKind.wrap .u32 (0 - (bitsI .and .u32 s1.1 1)))), IntKind.wrap .i64 (s1.2 + 1)) h_1
    else
     again0 (s1.1, IntKind.wrap .i64 (s0.2 + 1)) h_1)) (bitsI .xor .u32 s0.1 (IntKind.wrap .u32 x0), 0) h_0
  else
   Q (.int .u32 (bitsI .xor .u32 4294967295 s0.1)) h_0)) (bitsI .xor .u32 4294967295 sum0, 0) h
theorem F115_eq : (fun (sum0 : Int) (b0a : Option Addr) (b0l : Nat) (b0c : Nat) (h : Heap) (Q : Value → Heap → Prop) => fnPT Tryz.prog Tryz.f115 (fun i => bif Nat.beq i 0 then annCons 5 (codI .u32) (annOne 11 (codI .i64)) else bif Nat.beq i 2 then annCons 5 (codI .u32) (annOne 21 (codI .i64)) else annNil) (fun _ => []) (fun _ => none) [.int .u32 sum0, .slice b0a b0l b0c] h Q) = F115 := by kernel_rfl
theorem F115_ok {sum0 : Int} {b0a : Option Addr} {b0l : Nat} {b0c : Nat} {h : Heap} {Q : Value → Heap → Prop} (H : F115 sum0 b0a b0l b0c h Q) : CallsH Tryz.prog 115 [.int .u32 sum0, .slice b0a b0l b0c] h Q :=
 callsH_of (ann := fun i => bif Nat.beq i 0 then annCons 5 (codI .u32) (annOne 11 (codI .i64)) else bif Nat.beq i 2 then annCons 5 (codI .u32) (annOne 21 (codI .i64)) else annNil) (tys := fun _ => []) (pl := fun _ => none) Tryz.func115 (by kernel_rfl) (by have e := F115_eq; exact (congrFun (congrFun (congrFun (congrFun (congrFun (congrFun (e) sum0) b0a) b0l) b0c) h) Q).symm ▸ H)

/-- headgate/crc.Of[[]byte] -/
def F36 (b0a : Option Addr) (b0l : Nat) (b0c : Nat) (h : Heap) (Q : Value → Heap → Prop) : Prop :=
 CallsH Tryz.prog 115 [.int .u32 0, .slice b0a b0l b0c] h fun r0 h_0 =>
 DI .u32 r0 fun x0 =>
 Q (.int .u32 x0) h_0
theorem F36_eq : (fun (b0a : Option Addr) (b0l : Nat) (b0c : Nat) (h : Heap) (Q : Value → Heap → Prop) => fnPT Tryz.prog Tryz.f36 (fun _ => annNil) (fun _ => []) (fun _ => none) [.slice b0a b0l b0c] h Q) = F36 := by kernel_rfl
theorem F36_ok {b0a : Option Addr} {b0l : Nat} {b0c : Nat} {h : Heap} {Q : Value → Heap → Prop} (H : F36 b0a b0l b0c h Q) : CallsH Tryz.prog 36 [.slice b0a b0l b0c] h Q :=
 callsH_of (ann := fun _ => annNil) (tys := fun _ => []) (pl := fun _ => none) Tryz.func36 (by kernel_rfl) (by have e := F36_eq; exact (congrFun (congrFun (congrFun (congrFun (congrFun (e) b0a) b0l) b0c) h) Q).symm ▸ H)

/-- slices.Index[[]string,string] -/
def F238 (s0a : Option Addr) (s0l : Nat) (s0c : Nat) (v0 : ByteArray) (h : Heap) (Q : Value → Heap → Prop) : Prop :=
 LoopH (fun again0 (s1 : Int) h_0 =>
  (bif decide ((s1 : Int) < (s0l : Int)) then
   IdxA s0a s0l s1 1 fun a0 =>
   Ld h_0 a0 fun v1 => DS v1 fun x0 =>
   (bif strEq v0 x0 then
    Q (.int .i64 s1) h_0
   else
    again0 (IntKind.wrap .i64 (s1 + 1)) h_0)
  else
   Q (.int .i64 (-1)) h_0)) 0 h
theorem F238_eq : (fun (s0a : Option Addr) (s0l : Nat) (s0c : Nat) (v0 : ByteArray) (h : Heap) (Q : Value → Heap → Prop) => fnPT Tryz.prog Tryz.f238 (fun i => bif Nat.beq i 0 then annOne 8 (codI .i64) else annNil) (fun _ => []) (fun _ => none) [.slice s0a s0l s0c, .string v0] h Q) = F238 := by kernel_rfl
theorem F238_ok {s0a : Option Addr} {s0l : Nat} {s0c : Nat} {v0 : ByteArray} {h : Heap} {Q : Value → Heap → Prop} (H : F238 s0a s0l s0c v0 h Q) : CallsH Tryz.prog 238 [.slice s0a s0l s0c, .string v0] h Q :=
 callsH_of (ann := fun i => bif Nat.beq i 0 then annOne 8 (codI .i64) else annNil) (tys := fun _ => []) (pl := fun _ => none) Tryz.func238 (by kernel_rfl) (by have e := F238_eq; exact (congrFun (congrFun (congrFun (congrFun (congrFun (congrFun (e) s0a) s0l) s0c) v0) h) Q).symm ▸ H)

/-- headgate/simfs.name -/
def F215 (s0 : ByteArray) (h : Heap) (Q : Value → Heap → Prop) : Prop :=
 LoopH (fun again0 (s1 : Int) h_0 =>
  (bif decide ((s1 : Int) < ((s0 : ByteArray).size : Int)) then
   0 ≤ (s1 : Int) ∧ (s1 : Int) < ((s0 : ByteArray).size : Int) ∧
   (bif decide (((bt s0 s1) : Int) < 97) then
    (bif decide (((bt s0 s1) : Int) < 48) then
     (bif ((bt s0 s1) : Int) != 46 then
      Q (.bool false) h_0
     else
      again0 (IntKind.wrap .i64 (s1 + 1)) h_0)
    else
     (bif decide (((bt s0 s1) : Int) > 57) then
      (bif ((bt s0 s1) : Int) != 46 then
       Q (.bool false) h_0
      else
       again0 (IntKind.wrap .i64 (s1 + 1)) h_0)
     else
      again0 (IntKind.wrap .i64 (s1 + 1)) h_0))
   else
    (bif decide (((bt s0 s1) : Int) > 122) then
     (bif decide (((bt s0 s1) : Int) < 48) then
      (bif ((bt s0 s1) : Int) != 46 then
       Q (.bool false) h_0
      else
       again0 (IntKind.wrap .i64 (s1 + 1)) h_0)
     else
      (bif decide (((bt s0 s1) : Int) > 57) then
       (bif ((bt s0 s1) : Int) != 46 then
        Q (.bool false) h_0
       else
        again0 (IntKind.wrap .i64 (s1 + 1)) h_0)
      else
       again0 (IntKind.wrap .i64 (s1 + 1)) h_0))
    else
     again0 (IntKind.wrap .i64 (s1 + 1)) h_0))
  else
   (bif !strEq s0 .empty then
    Q (.bool (decide ((((s0 : ByteArray).size : Int) : Int) ≤ 32))) h_0
   else
    Q (.bool false) h_0))) 0 h
theorem F215_eq : (fun (s0 : ByteArray) (h : Heap) (Q : Value → Heap → Prop) => fnPT Tryz.prog Tryz.f215 (fun i => bif Nat.beq i 0 then annOne 7 (codI .i64) else annNil) (fun _ => []) (fun _ => none) [.string s0] h Q) = F215 := by kernel_rfl
theorem F215_ok {s0 : ByteArray} {h : Heap} {Q : Value → Heap → Prop} (H : F215 s0 h Q) : CallsH Tryz.prog 215 [.string s0] h Q :=
 callsH_of (ann := fun i => bif Nat.beq i 0 then annOne 7 (codI .i64) else annNil) (tys := fun _ => []) (pl := fun _ => none) Tryz.func215 (by kernel_rfl) (by have e := F215_eq; exact (congrFun (congrFun (congrFun (e) s0) h) Q).symm ▸ H)

/-- slices.AppendSeq[[]string,string] -/
def F216 (s0a : Option Addr) (s0l : Nat) (s0c : Nat) (seq0 : Value) (h : Heap) (Q : Value → Heap → Prop) : Prop :=
 Al h (.cells #[.slice s0a s0l s0c] 44) fun b0 h_0 =>
 RangeFn Tryz.prog seq0 1 none h_0 (fun l_0 rec_0 args0 h_1 Q_0 =>
  ∃ (y0 : ByteArray), args0 = [.string y0] ∧
  h_1[l_0]? = some (rec_0 .ready none) ∧
  Ld (h_1.setIfInBounds l_0 (rec_0 .busy none)) (Addr.mk b0 0 none) fun v0 => DSl v0 fun x0a x0l x0c =>
  Al (h_1.setIfInBounds l_0 (rec_0 .busy none)) (.cells #[.string y0] 9) fun b1 h_2 =>
  RunH Tryz.prog (Builtin.append_ #[44, 44] 44 #[.slice x0a x0l x0c, .slice (some (Addr.mk b1 0 none)) 1 1]) h_2 fun r2 h_3 =>
  DSl r2 fun x1a x1l x1c =>
  StC h_3 ((Addr.mk b0 0 none).add 0) (.slice x1a x1l x1c) fun h_5 =>
  h_5[l_0]? = some (rec_0 .busy none) ∧ Q_0 (.bool true) (h_5.setIfInBounds l_0 (rec_0 .ready none))) (fun pend0 h_6 =>
  pend0 = none ∧
  Ld h_6 (Addr.mk b0 0 none) fun v1 => DSl v1 fun x2a x2l x2c =>
  h_6[h_0.size]? = some (.deferred (some [])) ∧
  Q (.slice x2a x2l x2c) (h_6.setIfInBounds h_0.size (.deferred none)))
theorem F216_eq : (fun (s0a : Option Addr) (s0l : Nat) (s0c : Nat) (seq0 : Value) (h : Heap) (Q : Value → Heap → Prop) => fnPT Tryz.prog Tryz.f216 (fun _ => annNil) (fun i => bif Nat.beq i 0 then [9] else []) (fun _ => none) [.slice s0a s0l s0c, seq0] h Q) = F216 := by kernel_rfl
theorem F216_ok {s0a : Option Addr} {s0l : Nat} {s0c : Nat} {seq0 : Value} {h : Heap} {Q : Value → Heap → Prop} (H : F216 s0a s0l s0c seq0 h Q) : CallsH Tryz.prog 216 [.slice s0a s0l s0c, seq0] h Q :=
 callsH_of (ann := fun _ => annNil) (tys := fun i => bif Nat.beq i 0 then [9] else []) (pl := fun _ => none) Tryz.func216 (by kernel_rfl) (by have e := F216_eq; exact (congrFun (congrFun (congrFun (congrFun (congrFun (congrFun (e) s0a) s0l) s0c) seq0) h) Q).symm ▸ H)

/-- headgate/frame.number -/
def F229 (b0a : Option Addr) (b0l : Nat) (b0c : Nat) (h : Heap) (Q : Value → Heap → Prop) : Prop :=
 IdxA b0a b0l 0 1 fun a0 =>
 Ld h a0 fun v0 => DI .u8 v0 fun x0 =>
 0 ≤ (24 : Int) ∧
 IdxA b0a b0l 1 1 fun a1 =>
 Ld h a1 fun v1 => DI .u8 v1 fun x1 =>
 0 ≤ (16 : Int) ∧
 IdxA b0a b0l 2 1 fun a2 =>
 Ld h a2 fun v2 => DI .u8 v2 fun x2 =>
 0 ≤ (8 : Int) ∧
 IdxA b0a b0l 3 1 fun a3 =>
 Ld h a3 fun v3 => DI .u8 v3 fun x3 =>
 Q (.int .u32 (bitsI .or .u32 (bitsI .or .u32 (bitsI .or .u32 (shlI .u32 (IntKind.wrap .u32 x0) 24) (shlI .u32 (IntKind.wrap .u32 x1) 16)) (shlI .u32 (IntKind.wrap .u32 x2) 8)) (IntKind.wrap .u32 x3))) h
theorem F229_eq : (fun (b0a : Option Addr) (b0l : Nat) (b0c : Nat) (h : Heap) (Q : Value → Heap → Prop) => fnPT Tryz.prog Tryz.f229 (fun _ => annNil) (fun _ => []) (fun _ => none) [.slice b0a b0l b0c] h Q) = F229 := by kernel_rfl
theorem F229_ok {b0a : Option Addr} {b0l : Nat} {b0c : Nat} {h : Heap} {Q : Value → Heap → Prop} (H : F229 b0a b0l b0c h Q) : CallsH Tryz.prog 229 [.slice b0a b0l b0c] h Q :=
 callsH_of (ann := fun _ => annNil) (tys := fun _ => []) (pl := fun _ => none) Tryz.func229 (by kernel_rfl) (by have e := F229_eq; exact (congrFun (congrFun (congrFun (congrFun (congrFun (e) b0a) b0l) b0c) h) Q).symm ▸ H)

/-- internal/stringslite.HasPrefix -/
def F278 (s0 : ByteArray) (prefix_0 : ByteArray) (h : Heap) (Q : Value → Heap → Prop) : Prop :=
 (bif decide ((((s0 : ByteArray).size : Int) : Int) ≥ ((prefix_0 : ByteArray).size : Int)) then
  SlS s0 0 ((prefix_0 : ByteArray).size : Int) fun s1 =>
  Q (.bool (strEq s1 prefix_0)) h
 else
  Q (.bool false) h)
theorem F278_eq : (fun (s0 : ByteArray) (prefix_0 : ByteArray) (h : Heap) (Q : Value → Heap → Prop) => fnPT Tryz.prog Tryz.f278 (fun _ => annNil) (fun _ => []) (fun _ => none) [.string s0, .string prefix_0] h Q) = F278 := by kernel_rfl
theorem F278_ok {s0 : ByteArray} {prefix_0 : ByteArray} {h : Heap} {Q : Value → Heap → Prop} (H : F278 s0 prefix_0 h Q) : CallsH Tryz.prog 278 [.string s0, .string prefix_0] h Q :=
 callsH_of (ann := fun _ => annNil) (tys := fun _ => []) (pl := fun _ => none) Tryz.func278 (by kernel_rfl) (by have e := F278_eq; exact (congrFun (congrFun (congrFun (congrFun (e) s0) prefix_0) h) Q).symm ▸ H)

end Go.Proofs.YtibdiikcigokjaaGreatDoor
