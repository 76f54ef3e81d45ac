/- The texts over heaps of functions of the program: written by a program of this claim's writer (decomp.py); Lean checks each against the code. -/
import Derived.Test.YticjjdhaikbdaaaFyFwA
import Derived.Test.YticjjdhaikbdaaaProg
namespace Go.Proofs.Yticjjdhaikbdaaa
open Go Go.RowKit
set_option linter.unusedVariables false
set_option maxRecDepth 100000

/-- (*headgate/simfs.FS).ready -/
def F56 (f0 : Option Addr) (dir0 : ByteArray) (of_0a : Option Addr) (of_0l : Nat) (of_0c : Nat) (h : Heap) (Q : Value → Heap → Prop) : Prop :=
  (bif (f0).isNone then
    Q (.tuple #[.pointer none, .int .i64 1]) h
  else
    NN' f0 fun a0 =>
    Ld h (a0.add 4) fun v0 => DB v0 fun x0 =>
    (bif x0 then
      Q (.tuple #[.pointer none, .int .i64 60]) h
    else
      CallsH Try.prog 107 [.pointer f0, .string dir0, .slice of_0a of_0l of_0c] h fun r0 h_0 =>
      ∃ (x1 : Option Addr), ∃ (x2 : Int), r0 = .tuple #[.pointer x1, .int .i64 x2] ∧
      Q (.tuple #[.pointer x1, .int .i64 x2]) h_0))
theorem F56_eq : (fun (f0 : Option Addr) (dir0 : ByteArray) (of_0a : Option Addr) (of_0l : Nat) (of_0c : Nat) (h : Heap) (Q : Value → Heap → Prop) => fnPT Try.prog Try.f56 (fun _ => annNil) (fun _ => []) (fun _ => none) [.pointer f0, .string dir0, .slice of_0a of_0l of_0c] h Q) = F56 := by kernel_rfl
theorem F56_ok {f0 : Option Addr} {dir0 : ByteArray} {of_0a : Option Addr} {of_0l : Nat} {of_0c : Nat} {h : Heap} {Q : Value → Heap → Prop} (H : F56 f0 dir0 of_0a of_0l of_0c h Q) : CallsH Try.prog 56 [.pointer f0, .string dir0, .slice of_0a of_0l of_0c] h Q :=
  callsH_of (ann := fun _ => annNil) (tys := fun _ => []) (pl := fun _ => none) Try.func56 (by kernel_rfl) (by have e := F56_eq; exact (congrFun (congrFun (congrFun (congrFun (congrFun (congrFun (congrFun (e) f0) dir0) of_0a) of_0l) of_0c) h) Q).symm ▸ H)

/-- (*headgate/simfs.FS).step -/
def F57 (f0 : Option Addr) (h : Heap) (Q : Value → Heap → Prop) : Prop :=
  NN' f0 fun a0 =>
  Ld h (a0.add 3) fun v0 => DI .i64 v0 fun x0 =>
  (bif (x0 : Int) == 0 then
    NN' f0 fun a1 =>
    StC h ((a1.add 4).add 0) (.bool true) fun h_1 =>
    Q (.int .i64 60) h_1
  else
    NN' f0 fun a2 =>
    Ld h (a2.add 3) fun v1 => DI .i64 v1 fun x1 =>
    NN' f0 fun a3 =>
    StC h ((a3.add 3).add 0) (.int .i64 (if ((-1) : Int) > (IntKind.wrap .i64 (x1 - 1)) then (-1) else (IntKind.wrap .i64 (x1 - 1)))) fun h_3 =>
    NN' f0 fun a4 =>
    Ld h_3 (a4.add 2) fun v2 => DI .i64 v2 fun x2 =>
    NN' f0 fun a5 =>
    StC h_3 ((a5.add 2).add 0) (.int .i64 (IntKind.wrap .i64 (x2 + 1))) fun h_5 =>
    Q (.int .i64 0) h_5)
theorem F57_eq : (fun (f0 : Option Addr) (h : Heap) (Q : Value → Heap → Prop) => fnPT Try.prog Try.f57 (fun _ => annNil) (fun _ => []) (fun _ => none) [.pointer f0] h Q) = F57 := by kernel_rfl
theorem F57_ok {f0 : Option Addr} {h : Heap} {Q : Value → Heap → Prop} (H : F57 f0 h Q) : CallsH Try.prog 57 [.pointer f0] h Q :=
  callsH_of (ann := fun _ => annNil) (tys := fun _ => []) (pl := fun _ => none) Try.func57 (by kernel_rfl) (by have e := F57_eq; exact (congrFun (congrFun (congrFun (e) f0) h) Q).symm ▸ H)

/-- (*headgate/simfs.FS).change -/
def F58 (f0 : Option Addr) (d0 : Option Addr) (do_0f : Fn) (do_0p : Array Value) (do_0c : Array Value) (h : Heap) (Q : Value → Heap → Prop) : Prop :=
  CallsH Try.prog 57 [.pointer f0] h fun r0 h_0 =>
  DI .i64 r0 fun e0 =>
  (bif (e0 : Int) != 0 then
    Q (.int .i64 e0) h_0
  else
    NN' d0 fun a0 =>
    Ld h_0 (a0.add 0) fun v0 => DM v0 fun x0 =>
    CallV Try.prog (.func do_0f do_0p do_0c) [.map x0] h_0 fun r1 h_1 =>
    r1 = .tuple #[] ∧
    NN' d0 fun a1 =>
    Ld h_1 (a1.add 2) fun v1 => DSl v1 fun x1a x1l x1c =>
    Al h_1 (.cells #[.func do_0f do_0p do_0c] 96) fun b0 h_2 =>
    RunH Try.prog (Builtin.append_ #[89, 89] 89 #[.slice x1a x1l x1c, .slice (some (Addr.mk b0 0 none)) 1 1]) h_2 fun r3 h_3 =>
    DSl r3 fun x2a x2l x2c =>
    NN' d0 fun a2 =>
    StC h_3 ((a2.add 2).add 0) (.slice x2a x2l x2c) fun h_5 =>
    CallsH Try.prog 66 [.pointer f0] h_5 fun r5 h_6 =>
    r5 = .tuple #[] ∧
    Q (.int .i64 0) h_6)
theorem F58_eq : (fun (f0 : Option Addr) (d0 : Option Addr) (do_0f : Fn) (do_0p : Array Value) (do_0c : Array Value) (h : Heap) (Q : Value → Heap → Prop) => fnPT Try.prog Try.f58 (fun _ => annNil) (fun _ => []) (fun _ => none) [.pointer f0, .pointer d0, .func do_0f do_0p do_0c] h Q) = F58 := by kernel_rfl
theorem F58_ok {f0 : Option Addr} {d0 : Option Addr} {do_0f : Fn} {do_0p : Array Value} {do_0c : Array Value} {h : Heap} {Q : Value → Heap → Prop} (H : F58 f0 d0 do_0f do_0p do_0c h Q) : CallsH Try.prog 58 [.pointer f0, .pointer d0, .func do_0f do_0p do_0c] h Q :=
  callsH_of (ann := fun _ => annNil) (tys := fun _ => []) (pl := fun _ => none) Try.func58 (by kernel_rfl) (by have e := F58_eq; exact (congrFun (congrFun (congrFun (congrFun (congrFun (congrFun (congrFun (e) f0) d0) do_0f) do_0p) do_0c) h) Q).symm ▸ H)

/-- (*headgate/simfs.FS).Create$1 -/
def F59 (n0 : Option Nat) (c0 : Addr) (c1 : Addr) (h : Heap) (Q : Value → Heap → Prop) : Prop :=
  Ld h c1 fun v0 => DS v0 fun x0 =>
  Ld h c0 fun v1 => DP v1 fun x1 =>
  RunU Try.prog (Instr.mapUpdate 88 (.map n0) (.string x0) (.pointer x1)) h fun h_0 =>
  Q (.tuple #[]) h_0
theorem F59_eq : (fun (n0 : Option Nat) (c0 : Addr) (c1 : Addr) (h : Heap) (Q : Value → Heap → Prop) => fnPT Try.prog Try.f59 (fun _ => annNil) (fun _ => []) (fun _ => none) [.map n0, .pointer (some c0), .pointer (some c1)] h Q) = F59 := by kernel_rfl
theorem F59_ok {n0 : Option Nat} {c0 : Addr} {c1 : Addr} {h : Heap} {Q : Value → Heap → Prop} (H : F59 n0 c0 c1 h Q) : CallsH Try.prog 59 [.map n0, .pointer (some c0), .pointer (some c1)] h Q :=
  callsH_of (ann := fun _ => annNil) (tys := fun _ => []) (pl := fun _ => none) Try.func59 (by kernel_rfl) (by have e := F59_eq; exact (congrFun (congrFun (congrFun (congrFun (congrFun (e) n0) c0) c1) h) Q).symm ▸ H)

/-- (*headgate/simfs.FS).entry -/
def F60 (f0 : Option Addr) (dir0 : ByteArray) (name0 : ByteArray) (h : Heap) (Q : Value → Heap → Prop) : Prop :=
  Al h (.cells #[.string name0] 9) fun b0 h_0 =>
  CallsH Try.prog 56 [.pointer f0, .string dir0, .slice (some (Addr.mk b0 0 none)) 1 1] h_0 fun r1 h_1 =>
  ∃ (x0 : Option Addr), ∃ (x1 : Int), r1 = .tuple #[.pointer x0, .int .i64 x1] ∧
  (bif (x1 : Int) == 0 then
    NN' x0 fun a0 =>
    Ld h_1 (a0.add 0) fun v0 => DM v0 fun x2 =>
    ∃ es0, mapEs h_1 x2 es0 ∧ ∃ f1, Instr.findNow .string (.string name0) (es0 : Array MapEntry).toList 0 = some f1 ∧
    DP ((Option.map (fun x => x.2) f1).getD (.pointer none)) fun x3 =>
    (bif (x3).isNone then
      (bif (62 : Int) != 0 then
        Q (.tuple #[.pointer none, .pointer none, .int .i64 62]) h_1
      else
        NN' x0 fun a1 =>
        Ld h_1 (a1.add 0) fun v1 => DM v1 fun x4 =>
        ∃ es1, mapEs h_1 x4 es1 ∧ ∃ f2, Instr.findNow .string (.string name0) (es1 : Array MapEntry).toList 0 = some f2 ∧
        DP ((Option.map (fun x => x.2) f2).getD (.pointer none)) fun x5 =>
        Q (.tuple #[.pointer x0, .pointer x5, .int .i64 0]) h_1)
    else
      (bif (x1 : Int) != 0 then
        Q (.tuple #[.pointer none, .pointer none, .int .i64 x1]) h_1
      else
        NN' x0 fun a2 =>
        Ld h_1 (a2.add 0) fun v2 => DM v2 fun x6 =>
        ∃ es2, mapEs h_1 x6 es2 ∧ ∃ f3, Instr.findNow .string (.string name0) (es2 : Array MapEntry).toList 0 = some f3 ∧
        DP ((Option.map (fun x => x.2) f3).getD (.pointer none)) fun x7 =>
        Q (.tuple #[.pointer x0, .pointer x7, .int .i64 0]) h_1))
  else
    (bif (x1 : Int) != 0 then
      Q (.tuple #[.pointer none, .pointer none, .int .i64 x1]) h_1
    else
      NN' x0 fun a3 =>
      Ld h_1 (a3.add 0) fun v3 => DM v3 fun x8 =>
      ∃ es3, mapEs h_1 x8 es3 ∧ ∃ f4, Instr.findNow .string (.string name0) (es3 : Array MapEntry).toList 0 = some f4 ∧
      DP ((Option.map (fun x => x.2) f4).getD (.pointer none)) fun x9 =>
      Q (.tuple #[.pointer x0, .pointer x9, .int .i64 0]) h_1))
theorem F60_eq : (fun (f0 : Option Addr) (dir0 : ByteArray) (name0 : ByteArray) (h : Heap) (Q : Value → Heap → Prop) => fnPT Try.prog Try.f60 (fun _ => annNil) (fun _ => []) (fun _ => none) [.pointer f0, .string dir0, .string name0] h Q) = F60 := by kernel_rfl
theorem F60_ok {f0 : Option Addr} {dir0 : ByteArray} {name0 : ByteArray} {h : Heap} {Q : Value → Heap → Prop} (H : F60 f0 dir0 name0 h Q) : CallsH Try.prog 60 [.pointer f0, .string dir0, .string name0] h Q :=
  callsH_of (ann := fun _ => annNil) (tys := fun _ => []) (pl := fun _ => none) Try.func60 (by kernel_rfl) (by have e := F60_eq; exact (congrFun (congrFun (congrFun (congrFun (congrFun (e) f0) dir0) name0) h) Q).symm ▸ H)

/-- (*headgate/simfs.FS).Rename$1 -/
def F62 (n0 : Option Nat) (c0 : Addr) (c1 : Addr) (h : Heap) (Q : Value → Heap → Prop) : Prop :=
  Ld h c0 fun v0 => DS v0 fun x0 =>
  ∃ es0, mapEs h n0 es0 ∧ ∃ f0, Instr.findNow .string (.string x0) (es0 : Array MapEntry).toList 0 = some f0 ∧
  DP ((Option.map (fun x => x.2) f0).getD (.pointer none)) fun x1 =>
  Ld h c0 fun v1 => DS v1 fun x2 =>
  RunH Try.prog (Builtin.delete_ #[88, 9] 0 #[.map n0, .string x2]) h fun r0 h_0 =>
  Ld h_0 c1 fun v2 => DS v2 fun x3 =>
  RunU Try.prog (Instr.mapUpdate 88 (.map n0) (.string x3) (.pointer x1)) h_0 fun h_1 =>
  Q (.tuple #[]) h_1
theorem F62_eq : (fun (n0 : Option Nat) (c0 : Addr) (c1 : Addr) (h : Heap) (Q : Value → Heap → Prop) => fnPT Try.prog Try.f62 (fun _ => annNil) (fun _ => []) (fun _ => none) [.map n0, .pointer (some c0), .pointer (some c1)] h Q) = F62 := by kernel_rfl
theorem F62_ok {n0 : Option Nat} {c0 : Addr} {c1 : Addr} {h : Heap} {Q : Value → Heap → Prop} (H : F62 n0 c0 c1 h Q) : CallsH Try.prog 62 [.map n0, .pointer (some c0), .pointer (some c1)] h Q :=
  callsH_of (ann := fun _ => annNil) (tys := fun _ => []) (pl := fun _ => none) Try.func62 (by kernel_rfl) (by have e := F62_eq; exact (congrFun (congrFun (congrFun (congrFun (congrFun (e) n0) c0) c1) h) Q).symm ▸ H)

/-- (*headgate/simfs.FS).Crash$1 -/
def F63 (n0 : Int) (c0 : Addr) (h : Heap) (Q : Value → Heap → Prop) : Prop :=
  Ld h c0 fun v0 => DSl v0 fun x0a x0l x0c =>
  (bif ((x0l : Int) : Int) == 0 then
    Q (.int .i64 0) h
  else
    Ld h c0 fun v1 => DSl v1 fun x1a x1l x1c =>
    IdxA x1a x1l 0 1 fun a0 =>
    Ld h a0 fun v2 => DI .i64 v2 fun p0 =>
    Ld h c0 fun v3 => DSl v3 fun x2a x2l x2c =>
    SlV x2a x2c 1 1 (x2l : Int) (x2c : Int) fun s0a s0l s0c =>
    StC h (c0.add 0) (.slice s0a s0l s0c) fun h_1 =>
    ((IntKind.wrap .u64 (IntKind.wrap .i64 (n0 + 1))) : Int) ≠ 0 ∧
    Q (.int .i64 (IntKind.wrap .i64 (Int.tmod (IntKind.wrap .u64 p0) (IntKind.wrap .u64 (IntKind.wrap .i64 (n0 + 1)))))) h_1)
theorem F63_eq : (fun (n0 : Int) (c0 : Addr) (h : Heap) (Q : Value → Heap → Prop) => fnPT Try.prog Try.f63 (fun _ => annNil) (fun _ => []) (fun _ => none) [.int .i64 n0, .pointer (some c0)] h Q) = F63 := by kernel_rfl
theorem F63_ok {n0 : Int} {c0 : Addr} {h : Heap} {Q : Value → Heap → Prop} (H : F63 n0 c0 h Q) : CallsH Try.prog 63 [.int .i64 n0, .pointer (some c0)] h Q :=
  callsH_of (ann := fun _ => annNil) (tys := fun _ => []) (pl := fun _ => none) Try.func63 (by kernel_rfl) (by have e := F63_eq; exact (congrFun (congrFun (congrFun (congrFun (e) n0) c0) h) Q).symm ▸ H)

/-- slices.Sorted[string] -/
def F64 (seq0 : Value) (h : Heap) (Q : Value → Heap → Prop) : Prop :=
  CallsH Try.prog 109 [seq0] h fun r0 h_0 =>
  DSl r0 fun s0a s0l s0c =>
  CallsH Try.prog 110 [.slice s0a s0l s0c] h_0 fun r1 h_1 =>
  r1 = .tuple #[] ∧
  Q (.slice s0a s0l s0c) h_1
theorem F64_eq : (fun (seq0 : Value) (h : Heap) (Q : Value → Heap → Prop) => fnPT Try.prog Try.f64 (fun _ => annNil) (fun _ => []) (fun _ => none) [seq0] h Q) = F64 := by kernel_rfl
theorem F64_ok {seq0 : Value} {h : Heap} {Q : Value → Heap → Prop} (H : F64 seq0 h Q) : CallsH Try.prog 64 [seq0] h Q :=
  callsH_of (ann := fun _ => annNil) (tys := fun _ => []) (pl := fun _ => none) Try.func64 (by kernel_rfl) (by have e := F64_eq; exact (congrFun (congrFun (congrFun (e) seq0) h) Q).symm ▸ H)

/-- maps.Keys[headgate/simfs.names,string,*headgate/simfs.file] -/
def F65 (m0 : Option Nat) (h : Heap) (Q : Value → Heap → Prop) : Prop :=
  Al h (.cells #[.map m0] 88) fun b0 h_0 =>
  Q (.func (.func 111) #[] #[.pointer (some (Addr.mk b0 0 none))]) h_0
theorem F65_eq : (fun (m0 : Option Nat) (h : Heap) (Q : Value → Heap → Prop) => fnPT Try.prog Try.f65 (fun _ => annNil) (fun _ => []) (fun _ => none) [.map m0] h Q) = F65 := by kernel_rfl
theorem F65_ok {m0 : Option Nat} {h : Heap} {Q : Value → Heap → Prop} (H : F65 m0 h Q) : CallsH Try.prog 65 [.map m0] h Q :=
  callsH_of (ann := fun _ => annNil) (tys := fun _ => []) (pl := fun _ => none) Try.func65 (by kernel_rfl) (by have e := F65_eq; exact (congrFun (congrFun (congrFun (e) m0) h) Q).symm ▸ H)

/-- (*headgate/simfs.FS).count -/
def F66 (f0 : Option Addr) (h : Heap) (Q : Value → Heap → Prop) : Prop :=
  NN' f0 fun a0 =>
  StC h ((a0.add 1).add 0) (.int .i64 0) fun h_1 =>
  NN' f0 fun a1 =>
  Ld h_1 (a1.add 5) fun v0 => DM v0 fun x0 =>
  RunH Try.prog (Instr.range 81 (.map x0)) h_1 fun r1 h_2 =>
  DP r1 fun p0 =>
  LoopH (fun again0 (s0 : Unit) h_3 =>
    RunH Try.prog (Instr.next (.pointer p0) false 0) h_3 fun r2 h_4 =>
    (
      r2 = .tuple #[.bool false] ∧
      Q (.tuple #[]) h_4) ∨ (
      ∃ (k0 x1 : Value), r2 = .tuple #[.bool true, k0, x1] ∧
      RunH Try.prog (Instr.entry (.pointer p0)) h_4 fun r3 h_5 =>
      ∃ (x2 : Value), ∃ (x3 : Option Addr), r3 = .tuple #[x2, .pointer x3] ∧
      NN' x3 fun a2 =>
      Ld h_5 (a2.add 0) fun v1 => DM v1 fun x4 =>
      RunH Try.prog (Instr.range 88 (.map x4)) h_5 fun r4 h_6 =>
      DP r4 fun p1 =>
      LoopH (fun again1 (s1 : Unit) h_7 =>
        RunH Try.prog (Instr.next (.pointer p1) false 0) h_7 fun r5 h_8 =>
        (
          r5 = .tuple #[.bool false] ∧
          again0 () h_8) ∨ (
          ∃ (k1 x5 : Value), r5 = .tuple #[.bool true, k1, x5] ∧
          RunH Try.prog (Instr.entry (.pointer p1)) h_8 fun r6 h_9 =>
          ∃ (x6 : Value), ∃ (x7 : Option Addr), r6 = .tuple #[x6, .pointer x7] ∧
          NN' f0 fun a3 =>
          Ld h_9 (a3.add 1) fun v2 => DI .i64 v2 fun x8 =>
          NN' x7 fun a4 =>
          Ld h_9 (a4.add 0) fun v3 => DSl v3 fun x9a x9l x9c =>
          NN' f0 fun a5 =>
          StC h_9 ((a5.add 1).add 0) (.int .i64 (IntKind.wrap .i64 (x8 + (x9l : Int)))) fun h_11 =>
          again1 () h_11)) () h_6)) () h_2
theorem F66_eq : (fun (f0 : Option Addr) (h : Heap) (Q : Value → Heap → Prop) => fnPT Try.prog Try.f66 (fun i => bif Nat.beq i 0 then annNil else bif Nat.beq i 2 then annNil else annNil) (fun i => bif Nat.beq i 1003 then [0, 84] else bif Nat.beq i 1006 then [0, 92] else []) (fun i => bif Nat.beq i 7 then some ⟨[0, 1, 3, 7, 0, 16, 48, 112, 240, 511, 1023, 2047, 4095], 4096⟩ else none) [.pointer f0] h Q) = F66 := by kernel_rfl
theorem F66_ok {f0 : Option Addr} {h : Heap} {Q : Value → Heap → Prop} (H : F66 f0 h Q) : CallsH Try.prog 66 [.pointer f0] h Q :=
  callsH_of (ann := fun i => bif Nat.beq i 0 then annNil else bif Nat.beq i 2 then annNil else annNil) (tys := fun i => bif Nat.beq i 1003 then [0, 84] else bif Nat.beq i 1006 then [0, 92] else []) (pl := fun i => bif Nat.beq i 7 then some ⟨[0, 1, 3, 7, 0, 16, 48, 112, 240, 511, 1023, 2047, 4095], 4096⟩ else none) Try.func66 (by kernel_rfl) (by have e := F66_eq; exact (congrFun (congrFun (congrFun (e) f0) h) Q).symm ▸ H)

/-- slices.Clone[[]byte,byte] -/
def F67 (s0a : Option Addr) (s0l : Nat) (s0c : Nat) (h : Heap) (Q : Value → Heap → Prop) : Prop :=
  (bif (s0a).isNone then
    Q (.slice none 0 0) h
  else
    Al h (.cells #[] 5) fun b0 h_0 =>
    RunH Try.prog (Builtin.append_ #[31, 31] 31 #[.slice (some (Addr.mk b0 0 none)) 0 0, .slice s0a s0l s0c]) h_0 fun r1 h_1 =>
    DSl r1 fun x0a x0l x0c =>
    Q (.slice x0a x0l x0c) h_1)
theorem F67_eq : (fun (s0a : Option Addr) (s0l : Nat) (s0c : Nat) (h : Heap) (Q : Value → Heap → Prop) => fnPT Try.prog Try.f67 (fun _ => annNil) (fun _ => []) (fun _ => none) [.slice s0a s0l s0c] h Q) = F67 := by kernel_rfl
theorem F67_ok {s0a : Option Addr} {s0l : Nat} {s0c : Nat} {h : Heap} {Q : Value → Heap → Prop} (H : F67 s0a s0l s0c h Q) : CallsH Try.prog 67 [.slice s0a s0l s0c] h Q :=
  callsH_of (ann := fun _ => annNil) (tys := fun _ => []) (pl := fun _ => none) Try.func67 (by kernel_rfl) (by have e := F67_eq; exact (congrFun (congrFun (congrFun (congrFun (congrFun (e) s0a) s0l) s0c) h) Q).symm ▸ H)

/-- (*headgate/simfs.FS).Remove$1 -/
def F68 (n0 : Option Nat) (c0 : Addr) (h : Heap) (Q : Value → Heap → Prop) : Prop :=
  Ld h c0 fun v0 => DS v0 fun x0 =>
  RunH Try.prog (Builtin.delete_ #[88, 9] 0 #[.map n0, .string x0]) h fun r0 h_0 =>
  Q (.tuple #[]) h_0
theorem F68_eq : (fun (n0 : Option Nat) (c0 : Addr) (h : Heap) (Q : Value → Heap → Prop) => fnPT Try.prog Try.f68 (fun _ => annNil) (fun _ => []) (fun _ => none) [.map n0, .pointer (some c0)] h Q) = F68 := by kernel_rfl
theorem F68_ok {n0 : Option Nat} {c0 : Addr} {h : Heap} {Q : Value → Heap → Prop} (H : F68 n0 c0 h Q) : CallsH Try.prog 68 [.map n0, .pointer (some c0)] h Q :=
  callsH_of (ann := fun _ => annNil) (tys := fun _ => []) (pl := fun _ => none) Try.func68 (by kernel_rfl) (by have e := F68_eq; exact (congrFun (congrFun (congrFun (congrFun (e) n0) c0) h) Q).symm ▸ H)

/-- maps.Keys[map[string]*headgate/simfs.folder,string,*headgate/simfs.folder] -/
def F87 (m0 : Option Nat) (h : Heap) (Q : Value → Heap → Prop) : Prop :=
  Al h (.cells #[.map m0] 81) fun b0 h_0 =>
  Q (.func (.func 121) #[] #[.pointer (some (Addr.mk b0 0 none))]) h_0
theorem F87_eq : (fun (m0 : Option Nat) (h : Heap) (Q : Value → Heap → Prop) => fnPT Try.prog Try.f87 (fun _ => annNil) (fun _ => []) (fun _ => none) [.map m0] h Q) = F87 := by kernel_rfl
theorem F87_ok {m0 : Option Nat} {h : Heap} {Q : Value → Heap → Prop} (H : F87 m0 h Q) : CallsH Try.prog 87 [.map m0] h Q :=
  callsH_of (ann := fun _ => annNil) (tys := fun _ => []) (pl := fun _ => none) Try.func87 (by kernel_rfl) (by have e := F87_eq; exact (congrFun (congrFun (congrFun (e) m0) h) Q).symm ▸ H)

end Go.Proofs.Yticjjdhaikbdaaa
