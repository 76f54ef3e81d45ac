/- The texts over heaps of functions of the program: written by a program of this claim's writer (decomp.py); Lean checks each against the code. -/
import Derived.Test.YticjjdhaikbdaaaGreatMkFwE
import Derived.Test.YticjjdhaikbdaaaGreatProg
namespace Go.Proofs.YticjjdhaikbdaaaGreat
open Go Go.RowKit
set_option linter.unusedVariables false
set_option maxRecDepth 100000

/-- headgate/code.read[headgate/api.Pair] -/
def F170 (b0a : Option Addr) (b0l : Nat) (b0c : Nat) (next0 : Value) (h : Heap) (Q : Value → Heap → Prop) : Prop :=
  Al h (.cells #[.slice none 0 0] 144) fun b1 h_0 =>
  Al h_0 (.cells #[.int .i64 0] 26) fun b2 h_1 =>
  Al h_1 (.cells #[.slice b0a b0l b0c] 255) fun b3 h_2 =>
  CallV Tryz.prog next0 [.pointer (some (Addr.mk b3 0 none))] h_2 fun r3 h_3 =>
  DSl r3 fun x0a x0l x0c =>
  StC h_3 ((Addr.mk b1 0 none).add 0) (.slice x0a x0l x0c) fun h_5 =>
  Ld h_5 ((Addr.mk b3 0 none).add 0) fun v0 => DSl v0 fun x1a x1l x1c =>
  (bif decide (((x1l : Int) : Int) > 0) then
    False
    
  else
    (bif decide (((b0l : Int) : Int) > 16777216) then
      False
      
    else
      Ld h_5 (Addr.mk b1 0 none) fun v1 => DSl v1 fun x2a x2l x2c =>
      StC h_5 ((Addr.mk b1 0 none).add 0) (.slice x2a x2l x2c) fun h_9 =>
      StC h_9 ((Addr.mk b2 0 none).add 0) (.int .i64 0) fun h_11 =>
      DeferH Tryz.prog 187 [.pointer (some (Addr.mk b1 0 none)), .pointer (some (Addr.mk b2 0 none))] h_11 fun h_12 =>
      Ld h_12 (Addr.mk b1 0 none) fun v2 => DSl v2 fun res0a res0l res0c =>
      Ld h_12 (Addr.mk b2 0 none) fun v3 => DI .i64 v3 fun res1 =>
      Q (.tuple #[.slice res0a res0l res0c, .int .i64 res1]) h_12))
theorem F170_eq : (fun (b0a : Option Addr) (b0l : Nat) (b0c : Nat) (next0 : Value) (h : Heap) (Q : Value → Heap → Prop) => fnPTd Tryz.prog Tryz.f170 (fun _ => annNil) (fun _ => []) (fun _ => none) [.slice b0a b0l b0c, next0] h Q) = F170 := by kernel_rfl
theorem F170_ok {b0a : Option Addr} {b0l : Nat} {b0c : Nat} {next0 : Value} {h : Heap} {Q : Value → Heap → Prop} (H : F170 b0a b0l b0c next0 h Q) : CallsH Tryz.prog 170 [.slice b0a b0l b0c, next0] h Q :=
  callsHd_of (ann := fun _ => annNil) (tys := fun _ => []) (pl := fun _ => none) Tryz.func170 (by kernel_rfl) (by have e := F170_eq; exact (congrFun (congrFun (congrFun (congrFun (congrFun (congrFun (e) b0a) b0l) b0c) next0) h) Q).symm ▸ H)

/-- headgate/code.items[headgate/api.Pair] -/
def F172 (r0 : Option Addr) (next0 : Value) (h : Heap) (Q : Value → Heap → Prop) : Prop :=
  CallsH Tryz.prog 188 [.pointer r0] h fun r1 h_0 =>
  DI .u64 r1 fun n0 =>
  NN' r0 fun a0 =>
  Ld h_0 (a0.add 0) fun v0 => DSl v0 fun x0a x0l x0c =>
  (bif decide ((n0 : Int) > (IntKind.wrap .u64 (x0l : Int))) then
    False
    
  else
    LoopH (fun again0 (s0 : Sl × Int) h_2 =>
      (bif decide ((s0.2 : Int) < n0) then
        CallV Tryz.prog next0 [] h_2 fun r3 h_3 =>
        ∃ (x1 : ByteArray), ∃ (x2 : ByteArray), r3 = .agg #[.string x1, .string x2] ∧
        Al h_3 (.cells #[.string x1, .string x2] 146) fun b0 h_4 =>
        RunH Tryz.prog (Builtin.append_ #[144, 144] 144 #[.slice s0.1.a s0.1.l s0.1.c, .slice (some (Addr.mk b0 0 none)) 1 1]) h_4 fun r5 h_5 =>
        DSl r5 fun l_0a l_0l l_0c =>
        again0 (⟨l_0a, l_0l, l_0c⟩, IntKind.wrap .u64 (s0.2 + 1)) h_5
      else
        Q (.slice s0.1.a s0.1.l s0.1.c) h_2)) (⟨none, 0, 0⟩, 0) h_0)
theorem F172_eq : (fun (r0 : Option Addr) (next0 : Value) (h : Heap) (Q : Value → Heap → Prop) => fnPT Tryz.prog Tryz.f172 (fun i => bif Nat.beq i 0 then annCons 6 (codSl) (annOne 20 (codI .u64)) else annNil) (fun _ => []) (fun _ => none) [.pointer r0, next0] h Q) = F172 := by kernel_rfl
theorem F172_ok {r0 : Option Addr} {next0 : Value} {h : Heap} {Q : Value → Heap → Prop} (H : F172 r0 next0 h Q) : CallsH Tryz.prog 172 [.pointer r0, next0] h Q :=
  callsH_of (ann := fun i => bif Nat.beq i 0 then annCons 6 (codSl) (annOne 20 (codI .u64)) else annNil) (tys := fun _ => []) (pl := fun _ => none) Tryz.func172 (by kernel_rfl) (by have e := F172_eq; exact (congrFun (congrFun (congrFun (congrFun (e) r0) next0) h) Q).symm ▸ H)

/-- headgate/code.Unpairs$1$1 -/
def F173 (c0 : Addr) (h : Heap) (Q : Value → Heap → Prop) : Prop :=
  Al h (.cells #[.string .empty, .string .empty] 146) fun b0 h_0 =>
  Ld h_0 c0 fun v0 => DP v0 fun x0 =>
  Ld h_0 c0 fun v1 => DP v1 fun x1 =>
  CallsH Tryz.prog 174 [.pointer x0] h_0 fun r1 h_1 =>
  DS r1 fun x2 =>
  (Ld h_1 c0 fun v2 => DP v2 fun x3 =>
  SameV (some (.pointer x1)) (.pointer x3)) ∧
  CallsH Tryz.prog 174 [.pointer x1] h_1 fun r2 h_2 =>
  DS r2 fun x4 =>
  StC h_2 ((Addr.mk b0 0 none).add 0) (.string x2) fun h_4 =>
  StC h_4 ((Addr.mk b0 0 none).add 1) (.string x4) fun h_5 =>
  Ld h_5 ((Addr.mk b0 0 none).add 0) fun c1 =>
  Ld h_5 ((Addr.mk b0 0 none).add 1) fun c2 =>
  ∃ (res0 : ByteArray), ∃ (res1 : ByteArray), (Value.agg #[c1, c2]) = .agg #[.string res0, .string res1] ∧
  Q (.agg #[.string res0, .string res1]) h_5
theorem F173_eq : (fun (c0 : Addr) (h : Heap) (Q : Value → Heap → Prop) => fnPT Tryz.prog Tryz.f173 (fun _ => annNil) (fun _ => []) (fun i => bif Nat.beq i 1 then some ⟨[0, 1, 0, 7, 15, 31], 42⟩ else none) [.pointer (some c0)] h Q) = F173 := by kernel_rfl
theorem F173_ok {c0 : Addr} {h : Heap} {Q : Value → Heap → Prop} (H : F173 c0 h Q) : CallsH Tryz.prog 173 [.pointer (some c0)] h Q :=
  callsH_of (ann := fun _ => annNil) (tys := fun _ => []) (pl := fun i => bif Nat.beq i 1 then some ⟨[0, 1, 0, 7, 15, 31], 42⟩ else none) Tryz.func173 (by kernel_rfl) (by have e := F173_eq; exact (congrFun (congrFun (congrFun (e) c0) h) Q).symm ▸ H)

/-- (*headgate/code.reader).num -/
def F188 (r0 : Option Addr) (h : Heap) (Q : Value → Heap → Prop) : Prop :=
  NN' r0 fun a0 =>
  Ld h (a0.add 0) fun v0 => DSl v0 fun x0a x0l x0c =>
  CallsH Tryz.prog 205 [.slice x0a x0l x0c] h fun r1 h_0 =>
  ∃ (x1 : Int), ∃ (x2 : Int), ∃ (x3 : Int), r1 = .tuple #[.int .u64 x1, .int .i64 x2, .int .i64 x3] ∧
  (bif (x3 : Int) != 0 then
    False
    
  else
    NN' r0 fun a1 =>
    Ld h_0 (a1.add 0) fun v1 => DSl v1 fun x4a x4l x4c =>
    SlV x4a x4c 1 x2 (x4l : Int) (x4c : Int) fun s0a s0l s0c =>
    NN' r0 fun a2 =>
    StC h_0 ((a2.add 0).add 0) (.slice s0a s0l s0c) fun h_3 =>
    Q (.int .u64 x1) h_3)
theorem F188_eq : (fun (r0 : Option Addr) (h : Heap) (Q : Value → Heap → Prop) => fnPT Tryz.prog Tryz.f188 (fun _ => annNil) (fun _ => []) (fun _ => none) [.pointer r0] h Q) = F188 := by kernel_rfl
theorem F188_ok {r0 : Option Addr} {h : Heap} {Q : Value → Heap → Prop} (H : F188 r0 h Q) : CallsH Tryz.prog 188 [.pointer r0] h Q :=
  callsH_of (ann := fun _ => annNil) (tys := fun _ => []) (pl := fun _ => none) Tryz.func188 (by kernel_rfl) (by have e := F188_eq; exact (congrFun (congrFun (congrFun (e) r0) h) Q).symm ▸ H)

/-- (*headgate/code.reader).some -/
def F189 (r0 : Option Addr) (n0 : Int) (h : Heap) (Q : Value → Heap → Prop) : Prop :=
  NN' r0 fun a0 =>
  Ld h (a0.add 0) fun v0 => DSl v0 fun x0a x0l x0c =>
  (bif decide ((n0 : Int) > (IntKind.wrap .u64 (x0l : Int))) then
    False
    
  else
    NN' r0 fun a1 =>
    Ld h (a1.add 0) fun v1 => DSl v1 fun x1a x1l x1c =>
    SlV x1a x1c 1 0 n0 (x1c : Int) fun s0a s0l s0c =>
    NN' r0 fun a2 =>
    Ld h (a2.add 0) fun v2 => DSl v2 fun x2a x2l x2c =>
    SlV x2a x2c 1 n0 (x2l : Int) (x2c : Int) fun s1a s1l s1c =>
    NN' r0 fun a3 =>
    StC h ((a3.add 0).add 0) (.slice s1a s1l s1c) fun h_2 =>
    Q (.slice s0a s0l s0c) h_2)
theorem F189_eq : (fun (r0 : Option Addr) (n0 : Int) (h : Heap) (Q : Value → Heap → Prop) => fnPT Tryz.prog Tryz.f189 (fun _ => annNil) (fun _ => []) (fun _ => none) [.pointer r0, .int .u64 n0] h Q) = F189 := by kernel_rfl
theorem F189_ok {r0 : Option Addr} {n0 : Int} {h : Heap} {Q : Value → Heap → Prop} (H : F189 r0 n0 h Q) : CallsH Tryz.prog 189 [.pointer r0, .int .u64 n0] h Q :=
  callsH_of (ann := fun _ => annNil) (tys := fun _ => []) (pl := fun _ => none) Tryz.func189 (by kernel_rfl) (by have e := F189_eq; exact (congrFun (congrFun (congrFun (congrFun (e) r0) n0) h) Q).symm ▸ H)

end Go.Proofs.YticjjdhaikbdaaaGreat
