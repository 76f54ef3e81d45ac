/- The texts over heaps of functions of the program: written by a program of this claim's writer (decomp.py); Lean checks each against the code. -/
import Derived.Test.YtibdiikcigokjaaGreatSkFwA
import Derived.Test.YtibdiikcigokjaaGreatProg
namespace Go.Proofs.YtibdiikcigokjaaGreat
open Go Go.RowKit
set_option linter.unusedVariables false
set_option maxRecDepth 100000

/-- (*headgate/simfs.FS).find -/
def F145 (f0 : Option Addr) (dir0 : ByteArray) (of_0a : Option Addr) (of_0l : Nat) (of_0c : Nat) (h : Heap) (Q : Value → Heap → Prop) : Prop :=
  CallsH Tryz.prog 192 [.string dir0] h fun r0 h_0 =>
  DB r0 fun x0 =>
  (bif !x0 then
    Q (.tuple #[.pointer none, .int .i64 65]) h_0
  else
    LoopH (fun again0 (s0 : Int) h_1 =>
      (bif decide ((s0 : Int) < (of_0l : Int)) then
        IdxA of_0a of_0l s0 1 fun a0 =>
        Ld h_1 a0 fun v0 => DS v0 fun s1 =>
        CallsH Tryz.prog 192 [.string s1] h_1 fun r1 h_2 =>
        DB r1 fun x1 =>
        (bif !x1 then
          Q (.tuple #[.pointer none, .int .i64 65]) h_2
        else
          again0 (IntKind.wrap .i64 (s0 + 1)) h_2)
      else
        NN' f0 fun a1 =>
        Ld h_1 (a1.add 5) fun v1 => DM v1 fun x2 =>
        ∃ es0, mapEs h_1 x2 es0 ∧ ∃ f1, Instr.findNow .string (.string dir0) (es0 : Array MapEntry).toList 0 = some f1 ∧
        DP ((Option.map (fun x => x.2) f1).getD (.pointer none)) fun d0 =>
        (bif (d0).isNone then
          Q (.tuple #[.pointer none, .int .i64 61]) h_1
        else
          Q (.tuple #[.pointer d0, .int .i64 0]) h_1))) 0 h_0)
theorem F145_eq : (fun (f0 : Option Addr) (dir0 : ByteArray) (of_0a : Option Addr) (of_0l : Nat) (of_0c : Nat) (h : Heap) (Q : Value → Heap → Prop) => fnPT Tryz.prog Tryz.f145 (fun i => bif Nat.beq i 0 then annOne 16 (codI .i64) else annNil) (fun _ => []) (fun _ => none) [.pointer f0, .string dir0, .slice of_0a of_0l of_0c] h Q) = F145 := by kernel_rfl
theorem F145_ok {f0 : Option Addr} {dir0 : ByteArray} {of_0a : Option Addr} {of_0l : Nat} {of_0c : Nat} {h : Heap} {Q : Value → Heap → Prop} (H : F145 f0 dir0 of_0a of_0l of_0c h Q) : CallsH Tryz.prog 145 [.pointer f0, .string dir0, .slice of_0a of_0l of_0c] h Q :=
  callsH_of (ann := fun i => bif Nat.beq i 0 then annOne 16 (codI .i64) else annNil) (tys := fun _ => []) (pl := fun _ => none) Tryz.func145 (by kernel_rfl) (by have e := F145_eq; exact (congrFun (congrFun (congrFun (congrFun (congrFun (congrFun (congrFun (e) f0) dir0) of_0a) of_0l) of_0c) h) Q).symm ▸ H)

/-- slices.Collect[string] -/
def F129 (seq0 : Value) (h : Heap) (Q : Value → Heap → Prop) : Prop :=
  CallsH Tryz.prog 184 [.slice none 0 0, seq0] h fun r0 h_0 =>
  DSl r0 fun x0a x0l x0c =>
  Q (.slice x0a x0l x0c) h_0
theorem F129_eq : (fun (seq0 : Value) (h : Heap) (Q : Value → Heap → Prop) => fnPT Tryz.prog Tryz.f129 (fun _ => annNil) (fun _ => []) (fun _ => none) [seq0] h Q) = F129 := by kernel_rfl
theorem F129_ok {seq0 : Value} {h : Heap} {Q : Value → Heap → Prop} (H : F129 seq0 h Q) : CallsH Tryz.prog 129 [seq0] h Q :=
  callsH_of (ann := fun _ => annNil) (tys := fun _ => []) (pl := fun _ => none) Tryz.func129 (by kernel_rfl) (by have e := F129_eq; exact (congrFun (congrFun (congrFun (e) seq0) h) Q).symm ▸ H)

/-- maps.Keys[headgate/simfs.names,string,*headgate/simfs.file]$1 -/
def F131 (yield0 : Value) (c0 : Addr) (h : Heap) (Q : Value → Heap → Prop) : Prop :=
  Ld h c0 fun v0 => DM v0 fun x0 =>
  RunH Tryz.prog (Instr.range 129 (.map x0)) h fun r0 h_0 =>
  DP r0 fun p0 =>
  LoopH (fun again0 (s0 : Unit) h_1 =>
    RunH Tryz.prog (Instr.next (.pointer p0) false 0) h_1 fun r1 h_2 =>
    (
      r1 = .tuple #[.bool false] ∧
      Q (.tuple #[]) h_2) ∨ (
      ∃ (k0 x1 : Value), r1 = .tuple #[.bool true, k0, x1] ∧
      RunH Tryz.prog (Instr.entry (.pointer p0)) h_2 fun r2 h_3 =>
      ∃ (x2 : ByteArray), ∃ (x3 : Value), r2 = .tuple #[.string x2, x3] ∧
      CallV Tryz.prog yield0 [.string x2] h_3 fun r3 h_4 =>
      DB r3 fun x4 =>
      (bif !x4 then
        Q (.tuple #[]) h_4
      else
        again0 () h_4))) () h_0
theorem F131_eq : (fun (yield0 : Value) (c0 : Addr) (h : Heap) (Q : Value → Heap → Prop) => fnPT Tryz.prog Tryz.f131 (fun i => bif Nat.beq i 0 then annNil else annNil) (fun i => bif Nat.beq i 1002 then [9, 0] else []) (fun _ => none) [yield0, .pointer (some c0)] h Q) = F131 := by kernel_rfl
theorem F131_ok {yield0 : Value} {c0 : Addr} {h : Heap} {Q : Value → Heap → Prop} (H : F131 yield0 c0 h Q) : CallsH Tryz.prog 131 [yield0, .pointer (some c0)] h Q :=
  callsH_of (ann := fun i => bif Nat.beq i 0 then annNil else annNil) (tys := fun i => bif Nat.beq i 1002 then [9, 0] else []) (pl := fun _ => none) Tryz.func131 (by kernel_rfl) (by have e := F131_eq; exact (congrFun (congrFun (congrFun (congrFun (e) yield0) c0) h) Q).symm ▸ H)

/-- maps.Keys[map[string]*headgate/simfs.folder,string,*headgate/simfs.folder]$1 -/
def F183 (yield0 : Value) (c0 : Addr) (h : Heap) (Q : Value → Heap → Prop) : Prop :=
  Ld h c0 fun v0 => DM v0 fun x0 =>
  RunH Tryz.prog (Instr.range 115 (.map x0)) h fun r0 h_0 =>
  DP r0 fun p0 =>
  LoopH (fun again0 (s0 : Unit) h_1 =>
    RunH Tryz.prog (Instr.next (.pointer p0) false 0) h_1 fun r1 h_2 =>
    (
      r1 = .tuple #[.bool false] ∧
      Q (.tuple #[]) h_2) ∨ (
      ∃ (k0 x1 : Value), r1 = .tuple #[.bool true, k0, x1] ∧
      RunH Tryz.prog (Instr.entry (.pointer p0)) h_2 fun r2 h_3 =>
      ∃ (x2 : ByteArray), ∃ (x3 : Value), r2 = .tuple #[.string x2, x3] ∧
      CallV Tryz.prog yield0 [.string x2] h_3 fun r3 h_4 =>
      DB r3 fun x4 =>
      (bif !x4 then
        Q (.tuple #[]) h_4
      else
        again0 () h_4))) () h_0
theorem F183_eq : (fun (yield0 : Value) (c0 : Addr) (h : Heap) (Q : Value → Heap → Prop) => fnPT Tryz.prog Tryz.f183 (fun i => bif Nat.beq i 0 then annNil else annNil) (fun i => bif Nat.beq i 1002 then [9, 0] else []) (fun _ => none) [yield0, .pointer (some c0)] h Q) = F183 := by kernel_rfl
theorem F183_ok {yield0 : Value} {c0 : Addr} {h : Heap} {Q : Value → Heap → Prop} (H : F183 yield0 c0 h Q) : CallsH Tryz.prog 183 [yield0, .pointer (some c0)] h Q :=
  callsH_of (ann := fun i => bif Nat.beq i 0 then annNil else annNil) (tys := fun i => bif Nat.beq i 1002 then [9, 0] else []) (pl := fun _ => none) Tryz.func183 (by kernel_rfl) (by have e := F183_eq; exact (congrFun (congrFun (congrFun (congrFun (e) yield0) c0) h) Q).symm ▸ H)

/-- headgate/frame.first -/
def F196 (b0a : Option Addr) (b0l : Nat) (b0c : Nat) (h : Heap) (Q : Value → Heap → Prop) : Prop :=
  (bif decide (((b0l : Int) : Int) < 8) then
    Q (.tuple #[.slice none 0 0, .bool false]) h
  else
    CallsH Tryz.prog 240 [.slice b0a b0l b0c] h fun r0 h_0 =>
    DI .u32 r0 fun n0 =>
    (bif decide ((n0 : Int) > 16777208) then
      Q (.tuple #[.slice none 0 0, .bool false]) h_0
    else
      (bif decide (((IntKind.wrap .i64 n0) : Int) > (IntKind.wrap .i64 ((b0l : Int) - 8))) then
        Q (.tuple #[.slice none 0 0, .bool false]) h_0
      else
        SlV b0a b0c 1 8 (IntKind.wrap .i64 (8 + (IntKind.wrap .i64 n0))) (b0c : Int) fun s0a s0l s0c =>
        SlV b0a b0c 1 4 (b0l : Int) (b0c : Int) fun s1a s1l s1c =>
        ∃ r2, (CallsH Tryz.prog 240 [.slice s1a s1l s1c] h_0 fun r1 h_1 =>
        r1 = r2 ∧ h_1 = h_0) ∧
        DI .u32 r2 fun x0 =>
        SlV b0a b0c 1 0 4 (b0c : Int) fun s2a s2l s2c =>
        ∃ r4, (CallsH Tryz.prog 206 [.slice s2a s2l s2c] h_0 fun r3 h_2 =>
        r3 = r4 ∧ h_2 = h_0) ∧
        DI .u32 r4 fun x1 =>
        ∃ r6, (CallsH Tryz.prog 205 [.int .u32 x1, .slice s0a s0l s0c] h_0 fun r5 h_3 =>
        r5 = r6 ∧ h_3 = h_0) ∧
        DI .u32 r6 fun x2 =>
        Q (.tuple #[.slice s0a s0l s0c, .bool ((x0 : Int) == x2)]) h_0)))
theorem F196_eq : (fun (b0a : Option Addr) (b0l : Nat) (b0c : Nat) (h : Heap) (Q : Value → Heap → Prop) => fnPT Tryz.prog Tryz.f196 (fun _ => annNil) (fun _ => []) (fun _ => none) [.slice b0a b0l b0c] h Q) = F196 := by kernel_rfl
theorem F196_ok {b0a : Option Addr} {b0l : Nat} {b0c : Nat} {h : Heap} {Q : Value → Heap → Prop} (H : F196 b0a b0l b0c h Q) : CallsH Tryz.prog 196 [.slice b0a b0l b0c] h Q :=
  callsH_of (ann := fun _ => annNil) (tys := fun _ => []) (pl := fun _ => none) Tryz.func196 (by kernel_rfl) (by have e := F196_eq; exact (congrFun (congrFun (congrFun (congrFun (congrFun (e) b0a) b0l) b0c) h) Q).symm ▸ H)

/-- headgate/place.unfinished$1 -/
def F200 (yield0 : Value) (c0 : Addr) (h : Heap) (Q : Value → Heap → Prop) : Prop :=
  Ld h c0 fun v0 => DSl v0 fun x0a x0l x0c =>
  LoopH (fun again0 (s0 : Int) h_0 =>
    (bif decide ((s0 : Int) < (x0l : Int)) then
      IdxA x0a x0l s0 1 fun a0 =>
      Ld h_0 a0 fun v1 => DS v1 fun s1 =>
      CallsH Tryz.prog 201 [.string s1, .string ⟨#[116, 109, 112, 46]⟩] h_0 fun r0 h_1 =>
      DB r0 fun x1 =>
      (bif x1 then
        CallV Tryz.prog yield0 [.string s1] h_1 fun r1 h_2 =>
        DB r1 fun x2 =>
        (bif !x2 then
          Q (.tuple #[]) h_2
        else
          again0 (IntKind.wrap .i64 (s0 + 1)) h_2)
      else
        again0 (IntKind.wrap .i64 (s0 + 1)) h_1)
    else
      Q (.tuple #[]) h_0)) 0 h
theorem F200_eq : (fun (yield0 : Value) (c0 : Addr) (h : Heap) (Q : Value → Heap → Prop) => fnPT Tryz.prog Tryz.f200 (fun i => bif Nat.beq i 0 then annOne 7 (codI .i64) else annNil) (fun _ => []) (fun _ => none) [yield0, .pointer (some c0)] h Q) = F200 := by kernel_rfl
theorem F200_ok {yield0 : Value} {c0 : Addr} {h : Heap} {Q : Value → Heap → Prop} (H : F200 yield0 c0 h Q) : CallsH Tryz.prog 200 [yield0, .pointer (some c0)] h Q :=
  callsH_of (ann := fun i => bif Nat.beq i 0 then annOne 7 (codI .i64) else annNil) (tys := fun _ => []) (pl := fun _ => none) Tryz.func200 (by kernel_rfl) (by have e := F200_eq; exact (congrFun (congrFun (congrFun (congrFun (e) yield0) c0) h) Q).symm ▸ H)

/-- strings.HasPrefix -/
def F201 (s0 : ByteArray) (prefix_0 : ByteArray) (h : Heap) (Q : Value → Heap → Prop) : Prop :=
  CallsH Tryz.prog 242 [.string s0, .string prefix_0] h fun r0 h_0 =>
  DB r0 fun x0 =>
  Q (.bool x0) h_0
theorem F201_eq : (fun (s0 : ByteArray) (prefix_0 : ByteArray) (h : Heap) (Q : Value → Heap → Prop) => fnPT Tryz.prog Tryz.f201 (fun _ => annNil) (fun _ => []) (fun _ => none) [.string s0, .string prefix_0] h Q) = F201 := by kernel_rfl
theorem F201_ok {s0 : ByteArray} {prefix_0 : ByteArray} {h : Heap} {Q : Value → Heap → Prop} (H : F201 s0 prefix_0 h Q) : CallsH Tryz.prog 201 [.string s0, .string prefix_0] h Q :=
  callsH_of (ann := fun _ => annNil) (tys := fun _ => []) (pl := fun _ => none) Tryz.func201 (by kernel_rfl) (by have e := F201_eq; exact (congrFun (congrFun (congrFun (congrFun (e) s0) prefix_0) h) Q).symm ▸ H)

/-- headgate/frame.word -/
def F204 (n0 : Int) (h : Heap) (Q : Value → Heap → Prop) : Prop :=
  0 ≤ (24 : Int) ∧
  0 ≤ (16 : Int) ∧
  0 ≤ (8 : Int) ∧
  Al h (.cells #[.int .u8 (IntKind.wrap .u8 (shrI .u32 n0 24)), .int .u8 (IntKind.wrap .u8 (shrI .u32 n0 16)), .int .u8 (IntKind.wrap .u8 (shrI .u32 n0 8)), .int .u8 (IntKind.wrap .u8 n0)] 5) fun b0 h_0 =>
  Q (.slice (some (Addr.mk b0 0 none)) 4 4) h_0
theorem F204_eq : (fun (n0 : Int) (h : Heap) (Q : Value → Heap → Prop) => fnPT Tryz.prog Tryz.f204 (fun _ => annNil) (fun _ => []) (fun _ => none) [.int .u32 n0] h Q) = F204 := by kernel_rfl
theorem F204_ok {n0 : Int} {h : Heap} {Q : Value → Heap → Prop} (H : F204 n0 h Q) : CallsH Tryz.prog 204 [.int .u32 n0] h Q :=
  callsH_of (ann := fun _ => annNil) (tys := fun _ => []) (pl := fun _ => none) Tryz.func204 (by kernel_rfl) (by have e := F204_eq; exact (congrFun (congrFun (congrFun (e) n0) h) Q).symm ▸ H)

/-- headgate/crc.More[[]byte] -/
def F205 (sum0 : Int) (b0a : Option Addr) (b0l : Nat) (b0c : Nat) (h : Heap) (Q : Value → Heap → Prop) : Prop :=
  LoopH (fun again0 (s0 : Int × Int) h_0 =>
    (bif decide ((s0.2 : Int) < (b0l : Int)) then
      IdxA b0a b0l s0.2 1 fun a0 =>
      Ld h_0 a0 fun v0 => DI .u8 v0 fun x0 =>
      LoopH (fun again1 (s1 : Int × Int) h_1 =>
        (bif decide ((s1.2 : Int) < 8) then
          0 ≤ (1 : Int) ∧
          again1 (bitsI .xor .u32 (shrI .u32 s1.1 1) (bitsI .and .u32 2197175160 (IntKind.wrap .u32 (0 - (bitsI .and .u32 s1.1 1)))), IntKind.wrap .i64 (s1.2 + 1)) h_1
        else
          again0 (s1.1, IntKind.wrap .i64 (s0.2 + 1)) h_1)) (bitsI .xor .u32 s0.1 (IntKind.wrap .u32 x0), 0) h_0
    else
      Q (.int .u32 (bitsI .xor .u32 4294967295 s0.1)) h_0)) (bitsI .xor .u32 4294967295 sum0, 0) h
theorem F205_eq : (fun (sum0 : Int) (b0a : Option Addr) (b0l : Nat) (b0c : Nat) (h : Heap) (Q : Value → Heap → Prop) => fnPT Tryz.prog Tryz.f205 (fun i => bif Nat.beq i 0 then annCons 5 (codI .u32) (annOne 11 (codI .i64)) else bif Nat.beq i 2 then annCons 5 (codI .u32) (annOne 21 (codI .i64)) else annNil) (fun _ => []) (fun _ => none) [.int .u32 sum0, .slice b0a b0l b0c] h Q) = F205 := by kernel_rfl
theorem F205_ok {sum0 : Int} {b0a : Option Addr} {b0l : Nat} {b0c : Nat} {h : Heap} {Q : Value → Heap → Prop} (H : F205 sum0 b0a b0l b0c h Q) : CallsH Tryz.prog 205 [.int .u32 sum0, .slice b0a b0l b0c] h Q :=
  callsH_of (ann := fun i => bif Nat.beq i 0 then annCons 5 (codI .u32) (annOne 11 (codI .i64)) else bif Nat.beq i 2 then annCons 5 (codI .u32) (annOne 21 (codI .i64)) else annNil) (tys := fun _ => []) (pl := fun _ => none) Tryz.func205 (by kernel_rfl) (by have e := F205_eq; exact (congrFun (congrFun (congrFun (congrFun (congrFun (congrFun (e) sum0) b0a) b0l) b0c) h) Q).symm ▸ H)

/-- headgate/crc.Of[[]byte] -/
def F206 (b0a : Option Addr) (b0l : Nat) (b0c : Nat) (h : Heap) (Q : Value → Heap → Prop) : Prop :=
  CallsH Tryz.prog 205 [.int .u32 0, .slice b0a b0l b0c] h fun r0 h_0 =>
  DI .u32 r0 fun x0 =>
  Q (.int .u32 x0) h_0
theorem F206_eq : (fun (b0a : Option Addr) (b0l : Nat) (b0c : Nat) (h : Heap) (Q : Value → Heap → Prop) => fnPT Tryz.prog Tryz.f206 (fun _ => annNil) (fun _ => []) (fun _ => none) [.slice b0a b0l b0c] h Q) = F206 := by kernel_rfl
theorem F206_ok {b0a : Option Addr} {b0l : Nat} {b0c : Nat} {h : Heap} {Q : Value → Heap → Prop} (H : F206 b0a b0l b0c h Q) : CallsH Tryz.prog 206 [.slice b0a b0l b0c] h Q :=
  callsH_of (ann := fun _ => annNil) (tys := fun _ => []) (pl := fun _ => none) Tryz.func206 (by kernel_rfl) (by have e := F206_eq; exact (congrFun (congrFun (congrFun (congrFun (congrFun (e) b0a) b0l) b0c) h) Q).symm ▸ H)

/-- slices.Index[[]string,string] -/
def F243 (s0a : Option Addr) (s0l : Nat) (s0c : Nat) (v0 : ByteArray) (h : Heap) (Q : Value → Heap → Prop) : Prop :=
  LoopH (fun again0 (s1 : Int) h_0 =>
    (bif decide ((s1 : Int) < (s0l : Int)) then
      IdxA s0a s0l s1 1 fun a0 =>
      Ld h_0 a0 fun v1 => DS v1 fun x0 =>
      (bif strEq v0 x0 then
        Q (.int .i64 s1) h_0
      else
        again0 (IntKind.wrap .i64 (s1 + 1)) h_0)
    else
      Q (.int .i64 (-1)) h_0)) 0 h
theorem F243_eq : (fun (s0a : Option Addr) (s0l : Nat) (s0c : Nat) (v0 : ByteArray) (h : Heap) (Q : Value → Heap → Prop) => fnPT Tryz.prog Tryz.f243 (fun i => bif Nat.beq i 0 then annOne 8 (codI .i64) else annNil) (fun _ => []) (fun _ => none) [.slice s0a s0l s0c, .string v0] h Q) = F243 := by kernel_rfl
theorem F243_ok {s0a : Option Addr} {s0l : Nat} {s0c : Nat} {v0 : ByteArray} {h : Heap} {Q : Value → Heap → Prop} (H : F243 s0a s0l s0c v0 h Q) : CallsH Tryz.prog 243 [.slice s0a s0l s0c, .string v0] h Q :=
  callsH_of (ann := fun i => bif Nat.beq i 0 then annOne 8 (codI .i64) else annNil) (tys := fun _ => []) (pl := fun _ => none) Tryz.func243 (by kernel_rfl) (by have e := F243_eq; exact (congrFun (congrFun (congrFun (congrFun (congrFun (congrFun (e) s0a) s0l) s0c) v0) h) Q).symm ▸ H)

/-- headgate/simfs.name -/
def F192 (s0 : ByteArray) (h : Heap) (Q : Value → Heap → Prop) : Prop :=
  LoopH (fun again0 (s1 : Int) h_0 =>
    (bif decide ((s1 : Int) < ((s0 : ByteArray).size : Int)) then
      0 ≤ (s1 : Int) ∧ (s1 : Int) < ((s0 : ByteArray).size : Int) ∧
      (bif decide (((bt s0 s1) : Int) < 97) then
        (bif decide (((bt s0 s1) : Int) < 48) then
          (bif ((bt s0 s1) : Int) != 46 then
            Q (.bool false) h_0
          else
            again0 (IntKind.wrap .i64 (s1 + 1)) h_0)
        else
          (bif decide (((bt s0 s1) : Int) > 57) then
            (bif ((bt s0 s1) : Int) != 46 then
              Q (.bool false) h_0
            else
              again0 (IntKind.wrap .i64 (s1 + 1)) h_0)
          else
            again0 (IntKind.wrap .i64 (s1 + 1)) h_0))
      else
        (bif decide (((bt s0 s1) : Int) > 122) then
          (bif decide (((bt s0 s1) : Int) < 48) then
            (bif ((bt s0 s1) : Int) != 46 then
              Q (.bool false) h_0
            else
              again0 (IntKind.wrap .i64 (s1 + 1)) h_0)
          else
            (bif decide (((bt s0 s1) : Int) > 57) then
              (bif ((bt s0 s1) : Int) != 46 then
                Q (.bool false) h_0
              else
                again0 (IntKind.wrap .i64 (s1 + 1)) h_0)
            else
              again0 (IntKind.wrap .i64 (s1 + 1)) h_0))
        else
          again0 (IntKind.wrap .i64 (s1 + 1)) h_0))
    else
      (bif !strEq s0 .empty then
        Q (.bool (decide ((((s0 : ByteArray).size : Int) : Int) ≤ 32))) h_0
      else
        Q (.bool false) h_0))) 0 h
theorem F192_eq : (fun (s0 : ByteArray) (h : Heap) (Q : Value → Heap → Prop) => fnPT Tryz.prog Tryz.f192 (fun i => bif Nat.beq i 0 then annOne 7 (codI .i64) else annNil) (fun _ => []) (fun _ => none) [.string s0] h Q) = F192 := by kernel_rfl
theorem F192_ok {s0 : ByteArray} {h : Heap} {Q : Value → Heap → Prop} (H : F192 s0 h Q) : CallsH Tryz.prog 192 [.string s0] h Q :=
  callsH_of (ann := fun i => bif Nat.beq i 0 then annOne 7 (codI .i64) else annNil) (tys := fun _ => []) (pl := fun _ => none) Tryz.func192 (by kernel_rfl) (by have e := F192_eq; exact (congrFun (congrFun (congrFun (e) s0) h) Q).symm ▸ H)

/-- slices.AppendSeq[[]string,string] -/
def F184 (s0a : Option Addr) (s0l : Nat) (s0c : Nat) (seq0 : Value) (h : Heap) (Q : Value → Heap → Prop) : Prop :=
  Al h (.cells #[.slice s0a s0l s0c] 97) fun b0 h_0 =>
  RangeFn Tryz.prog seq0 1 none h_0 (fun l_0 rec_0 args0 h_1 Q_0 =>
    ∃ (y0 : ByteArray), args0 = [.string y0] ∧
    h_1[l_0]? = some (rec_0 .ready none) ∧
    Ld (h_1.setIfInBounds l_0 (rec_0 .busy none)) (Addr.mk b0 0 none) fun v0 => DSl v0 fun x0a x0l x0c =>
    Al (h_1.setIfInBounds l_0 (rec_0 .busy none)) (.cells #[.string y0] 9) fun b1 h_2 =>
    RunH Tryz.prog (Builtin.append_ #[97, 97] 97 #[.slice x0a x0l x0c, .slice (some (Addr.mk b1 0 none)) 1 1]) h_2 fun r2 h_3 =>
    DSl r2 fun x1a x1l x1c =>
    StC h_3 ((Addr.mk b0 0 none).add 0) (.slice x1a x1l x1c) fun h_5 =>
    h_5[l_0]? = some (rec_0 .busy none) ∧ Q_0 (.bool true) (h_5.setIfInBounds l_0 (rec_0 .ready none))) (fun pend0 h_6 =>
    pend0 = none ∧
    Ld h_6 (Addr.mk b0 0 none) fun v1 => DSl v1 fun x2a x2l x2c =>
    h_6[h_0.size]? = some (.deferred (some [])) ∧
    Q (.slice x2a x2l x2c) (h_6.setIfInBounds h_0.size (.deferred none)))
theorem F184_eq : (fun (s0a : Option Addr) (s0l : Nat) (s0c : Nat) (seq0 : Value) (h : Heap) (Q : Value → Heap → Prop) => fnPT Tryz.prog Tryz.f184 (fun _ => annNil) (fun i => bif Nat.beq i 0 then [9] else []) (fun _ => none) [.slice s0a s0l s0c, seq0] h Q) = F184 := by kernel_rfl
theorem F184_ok {s0a : Option Addr} {s0l : Nat} {s0c : Nat} {seq0 : Value} {h : Heap} {Q : Value → Heap → Prop} (H : F184 s0a s0l s0c seq0 h Q) : CallsH Tryz.prog 184 [.slice s0a s0l s0c, seq0] h Q :=
  callsH_of (ann := fun _ => annNil) (tys := fun i => bif Nat.beq i 0 then [9] else []) (pl := fun _ => none) Tryz.func184 (by kernel_rfl) (by have e := F184_eq; exact (congrFun (congrFun (congrFun (congrFun (congrFun (congrFun (e) s0a) s0l) s0c) seq0) h) Q).symm ▸ H)

/-- headgate/frame.number -/
def F240 (b0a : Option Addr) (b0l : Nat) (b0c : Nat) (h : Heap) (Q : Value → Heap → Prop) : Prop :=
  IdxA b0a b0l 0 1 fun a0 =>
  Ld h a0 fun v0 => DI .u8 v0 fun x0 =>
  0 ≤ (24 : Int) ∧
  IdxA b0a b0l 1 1 fun a1 =>
  Ld h a1 fun v1 => DI .u8 v1 fun x1 =>
  0 ≤ (16 : Int) ∧
  IdxA b0a b0l 2 1 fun a2 =>
  Ld h a2 fun v2 => DI .u8 v2 fun x2 =>
  0 ≤ (8 : Int) ∧
  IdxA b0a b0l 3 1 fun a3 =>
  Ld h a3 fun v3 => DI .u8 v3 fun x3 =>
  Q (.int .u32 (bitsI .or .u32 (bitsI .or .u32 (bitsI .or .u32 (shlI .u32 (IntKind.wrap .u32 x0) 24) (shlI .u32 (IntKind.wrap .u32 x1) 16)) (shlI .u32 (IntKind.wrap .u32 x2) 8)) (IntKind.wrap .u32 x3))) h
theorem F240_eq : (fun (b0a : Option Addr) (b0l : Nat) (b0c : Nat) (h : Heap) (Q : Value → Heap → Prop) => fnPT Tryz.prog Tryz.f240 (fun _ => annNil) (fun _ => []) (fun _ => none) [.slice b0a b0l b0c] h Q) = F240 := by kernel_rfl
theorem F240_ok {b0a : Option Addr} {b0l : Nat} {b0c : Nat} {h : Heap} {Q : Value → Heap → Prop} (H : F240 b0a b0l b0c h Q) : CallsH Tryz.prog 240 [.slice b0a b0l b0c] h Q :=
  callsH_of (ann := fun _ => annNil) (tys := fun _ => []) (pl := fun _ => none) Tryz.func240 (by kernel_rfl) (by have e := F240_eq; exact (congrFun (congrFun (congrFun (congrFun (congrFun (e) b0a) b0l) b0c) h) Q).symm ▸ H)

/-- internal/stringslite.HasPrefix -/
def F242 (s0 : ByteArray) (prefix_0 : ByteArray) (h : Heap) (Q : Value → Heap → Prop) : Prop :=
  (bif decide ((((s0 : ByteArray).size : Int) : Int) ≥ ((prefix_0 : ByteArray).size : Int)) then
    SlS s0 0 ((prefix_0 : ByteArray).size : Int) fun s1 =>
    Q (.bool (strEq s1 prefix_0)) h
  else
    Q (.bool false) h)
theorem F242_eq : (fun (s0 : ByteArray) (prefix_0 : ByteArray) (h : Heap) (Q : Value → Heap → Prop) => fnPT Tryz.prog Tryz.f242 (fun _ => annNil) (fun _ => []) (fun _ => none) [.string s0, .string prefix_0] h Q) = F242 := by kernel_rfl
theorem F242_ok {s0 : ByteArray} {prefix_0 : ByteArray} {h : Heap} {Q : Value → Heap → Prop} (H : F242 s0 prefix_0 h Q) : CallsH Tryz.prog 242 [.string s0, .string prefix_0] h Q :=
  callsH_of (ann := fun _ => annNil) (tys := fun _ => []) (pl := fun _ => none) Tryz.func242 (by kernel_rfl) (by have e := F242_eq; exact (congrFun (congrFun (congrFun (congrFun (e) s0) prefix_0) h) Q).symm ▸ H)

/-- cmp.Less[string] -/
def F215 (x0 : ByteArray) (y0 : ByteArray) (h : Heap) (Q : Value → Heap → Prop) : Prop :=
  CallsH Tryz.prog 245 [.string x0] h fun r0 h_0 =>
  DB r0 fun x1 =>
  (bif x1 then
    CallsH Tryz.prog 245 [.string y0] h_0 fun r1 h_1 =>
    DB r1 fun x2 =>
    (bif !x2 then
      Q (.bool true) h_1
    else
      Q (.bool (strLt x0 y0)) h_1)
  else
    Q (.bool (strLt x0 y0)) h_0)
theorem F215_eq : (fun (x0 : ByteArray) (y0 : ByteArray) (h : Heap) (Q : Value → Heap → Prop) => fnPT Tryz.prog Tryz.f215 (fun _ => annNil) (fun _ => []) (fun _ => none) [.string x0, .string y0] h Q) = F215 := by kernel_rfl
theorem F215_ok {x0 : ByteArray} {y0 : ByteArray} {h : Heap} {Q : Value → Heap → Prop} (H : F215 x0 y0 h Q) : CallsH Tryz.prog 215 [.string x0, .string y0] h Q :=
  callsH_of (ann := fun _ => annNil) (tys := fun _ => []) (pl := fun _ => none) Tryz.func215 (by kernel_rfl) (by have e := F215_eq; exact (congrFun (congrFun (congrFun (congrFun (e) x0) y0) h) Q).symm ▸ H)

/-- cmp.isNaN[string] -/
def F245 (x0 : ByteArray) (h : Heap) (Q : Value → Heap → Prop) : Prop :=
  Q (.bool (!strEq x0 x0)) h
theorem F245_eq : (fun (x0 : ByteArray) (h : Heap) (Q : Value → Heap → Prop) => fnPT Tryz.prog Tryz.f245 (fun _ => annNil) (fun _ => []) (fun _ => none) [.string x0] h Q) = F245 := by kernel_rfl
theorem F245_ok {x0 : ByteArray} {h : Heap} {Q : Value → Heap → Prop} (H : F245 x0 h Q) : CallsH Tryz.prog 245 [.string x0] h Q :=
  callsH_of (ann := fun _ => annNil) (tys := fun _ => []) (pl := fun _ => none) Tryz.func245 (by kernel_rfl) (by have e := F245_eq; exact (congrFun (congrFun (congrFun (e) x0) h) Q).symm ▸ H)

end Go.Proofs.YtibdiikcigokjaaGreat
