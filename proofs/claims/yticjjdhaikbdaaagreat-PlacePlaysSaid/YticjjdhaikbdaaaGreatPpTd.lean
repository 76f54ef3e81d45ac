/- The texts over heaps of functions of the program: written by a program of this claim's writer (decomp.py); Lean checks each against the code. -/
import Derived.Test.YticjjdhaikbdaaaGreatPpFwA
import Derived.Test.YticjjdhaikbdaaaGreatProg
namespace Go.Proofs.YticjjdhaikbdaaaGreat
open Go Go.RowKit
set_option linter.unusedVariables false
set_option maxRecDepth 100000

/-- headgate/place.Hex -/
def F44 (n0 : Int) (h : Heap) (Q : Value → Heap → Prop) : Prop :=
  Al h (.cells #[.int .u8 0, .int .u8 0, .int .u8 0, .int .u8 0, .int .u8 0, .int .u8 0, .int .u8 0, .int .u8 0, .int .u8 0, .int .u8 0, .int .u8 0, .int .u8 0, .int .u8 0, .int .u8 0, .int .u8 0, .int .u8 0] 178) fun b0 h_0 =>
  LoopH (fun again0 (s0 : Int) h_1 =>
    (bif decide ((s0 : Int) < 16) then
      0 ≤ ((IntKind.wrap .i64 (60 - (IntKind.wrap .i64 (4 * s0)))) : Int) ∧
      0 ≤ (bitsI .and .u64 (shrI .u64 (IntKind.wrap .u64 n0) (IntKind.wrap .i64 (60 - (IntKind.wrap .i64 (4 * s0))))) 15 : Int) ∧ (bitsI .and .u64 (shrI .u64 (IntKind.wrap .u64 n0) (IntKind.wrap .i64 (60 - (IntKind.wrap .i64 (4 * s0))))) 15 : Int) < ((⟨#[48, 49, 50, 51, 52, 53, 54, 55, 56, 57, 97, 98, 99, 100, 101, 102]⟩ : ByteArray).size : Int) ∧
      0 ≤ (s0 : Int) ∧ (s0 : Int) < 16 ∧
      StC h_1 (((Addr.mk b0 0 none).add ((s0 : Int).toNat * 1)).add 0) (.int .u8 (bt ⟨#[48, 49, 50, 51, 52, 53, 54, 55, 56, 57, 97, 98, 99, 100, 101, 102]⟩ (bitsI .and .u64 (shrI .u64 (IntKind.wrap .u64 n0) (IntKind.wrap .i64 (60 - (IntKind.wrap .i64 (4 * s0))))) 15))) fun h_3 =>
      again0 (IntKind.wrap .i64 (s0 + 1)) h_3
    else
      ∃ bs0 : ByteArray, BytesIn h_1 (some (Addr.mk b0 0 none)) 16 bs0 ∧
      Q (.string bs0) h_1)) 0 h_0
theorem F44_eq : (fun (n0 : Int) (h : Heap) (Q : Value → Heap → Prop) => fnPT Tryz.prog Tryz.f44 (fun i => bif Nat.beq i 0 then annOne 5 (codI .i64) else annNil) (fun _ => []) (fun _ => none) [.int .i64 n0] h Q) = F44 := by kernel_rfl
theorem F44_ok {n0 : Int} {h : Heap} {Q : Value → Heap → Prop} (H : F44 n0 h Q) : CallsH Tryz.prog 44 [.int .i64 n0] h Q :=
  callsH_of (ann := fun i => bif Nat.beq i 0 then annOne 5 (codI .i64) else annNil) (tys := fun _ => []) (pl := fun _ => none) Tryz.func44 (by kernel_rfl) (by have e := F44_eq; exact (congrFun (congrFun (congrFun (e) n0) h) Q).symm ▸ H)

/-- (*headgate/simfs.FS).Plant -/
def F78b (f0 : Option Addr) (dir0 : ByteArray) (name0 : ByteArray) (b0a : Option Addr) (b0l : Nat) (b0c : Nat) (h : Heap) (Q : Value → Heap → Prop) : Prop :=
  (bif (f0).isNone then
    Q (.int .i64 1) h
  else
    Al h (.cells #[.string name0] 9) fun b1 h_0 =>
    CallsH Tryz.prog 136 [.pointer f0, .string dir0, .slice (some (Addr.mk b1 0 none)) 1 1] h_0 fun r1 h_1 =>
    ∃ (x0 : Option Addr), ∃ (x1 : Int), r1 = .tuple #[.pointer x0, .int .i64 x1] ∧
    (bif (x1 : Int) != 0 then
      Q (.int .i64 x1) h_1
    else
      (bif decide (((b0l : Int) : Int) > 16777216) then
        Q (.int .i64 67) h_1
      else
        NN' x0 fun a0 =>
        Ld h_1 (a0.add 0) fun v0 => DM v0 fun x2 =>
        ∃ es0, mapEs h_1 x2 es0 ∧ ∃ f1, Instr.findNow .string (.string name0) (es0 : Array MapEntry).toList 0 = some f1 ∧
        DP ((Option.map (fun x => x.2) f1).getD (.pointer none)) fun x3 =>
        (bif (x3).isNone then
          NN' x0 fun a1 =>
          Ld h_1 (a1.add 0) fun v1 => DM v1 fun x4 =>
          ∃ es1, mapEs h_1 x4 es1 ∧
          (bif decide ((((es1 : Array MapEntry).size : Int) : Int) ≥ 4096) then
            Q (.int .i64 66) h_1
          else
            NN' x0 fun a2 =>
            Ld h_1 (a2.add 0) fun v2 => DM v2 fun x5 =>
            CallsH Tryz.prog 132 [.slice b0a b0l b0c] h_1 fun r2 h_2 =>
            DSl r2 fun x6a x6l x6c =>
            (SameV (some (.pointer x0)) (.pointer x0)) ∧
            (NN' x0 fun a3 =>
            SameV (some (.pointer (some a2))) (.pointer (some a3))) ∧
            (SameV (some (.pointer (some (a2.add 0)))) (.pointer (some (a2.add 0)))) ∧
            (Ld h_2 (a2.add 0) fun v3 => DM v3 fun x7 =>
            SameV (some (.map x5)) (.map x7)) ∧
            (SameV (some (.string name0)) (.string name0)) ∧
            (SameV (some (.slice b0a b0l b0c)) (.slice b0a b0l b0c)) ∧
            (SameV (some (.int .i64 (b0l : Int))) (.int .i64 (b0l : Int))) ∧
            Al h_2 (.cells #[.slice x6a x6l x6c, .int .i64 (b0l : Int)] 164) fun b2 h_3 =>
            (SameV (some (.pointer x0)) (.pointer x0)) ∧
            (NN' x0 fun a4 =>
            SameV (some (.pointer (some a2))) (.pointer (some a4))) ∧
            (SameV (some (.pointer (some (a2.add 0)))) (.pointer (some (a2.add 0)))) ∧
            (Ld h_3 (a2.add 0) fun v4 => DM v4 fun x8 =>
            SameV (some (.map x5)) (.map x8)) ∧
            (SameV (some (.string name0)) (.string name0)) ∧
            RunU Tryz.prog (Instr.mapUpdate 155 (.map x5) (.string name0) (.pointer (some (Addr.mk b2 0 none)))) h_3 fun h_4 =>
            NN' x0 fun a5 =>
            Ld h_4 (a5.add 0) fun v5 => DM v5 fun x9 =>
            CallsH Tryz.prog 102 [.map x9] h_4 fun r5 h_5 =>
            DM r5 fun x10 =>
            NN' x0 fun a6 =>
            StC h_5 ((a6.add 1).add 0) (.map x10) fun h_7 =>
            NN' x0 fun a7 =>
            StC h_7 ((a7.add 2).add 0) (.slice none 0 0) fun h_9 =>
            CallsH Tryz.prog 105 [.pointer f0] h_9 fun r8 h_10 =>
            r8 = .tuple #[] ∧
            Q (.int .i64 0) h_10)
        else
          NN' x0 fun a8 =>
          Ld h_1 (a8.add 0) fun v6 => DM v6 fun x11 =>
          CallsH Tryz.prog 132 [.slice b0a b0l b0c] h_1 fun r9 h_11 =>
          DSl r9 fun x12a x12l x12c =>
          (SameV (some (.pointer x0)) (.pointer x0)) ∧
          (NN' x0 fun a9 =>
          SameV (some (.pointer (some a8))) (.pointer (some a9))) ∧
          (SameV (some (.pointer (some (a8.add 0)))) (.pointer (some (a8.add 0)))) ∧
          (Ld h_11 (a8.add 0) fun v7 => DM v7 fun x13 =>
          SameV (some (.map x11)) (.map x13)) ∧
          (SameV (some (.string name0)) (.string name0)) ∧
          (SameV (some (.slice b0a b0l b0c)) (.slice b0a b0l b0c)) ∧
          (SameV (some (.int .i64 (b0l : Int))) (.int .i64 (b0l : Int))) ∧
          Al h_11 (.cells #[.slice x12a x12l x12c, .int .i64 (b0l : Int)] 164) fun b3 h_12 =>
          (SameV (some (.pointer x0)) (.pointer x0)) ∧
          (NN' x0 fun a10 =>
          SameV (some (.pointer (some a8))) (.pointer (some a10))) ∧
          (SameV (some (.pointer (some (a8.add 0)))) (.pointer (some (a8.add 0)))) ∧
          (Ld h_12 (a8.add 0) fun v8 => DM v8 fun x14 =>
          SameV (some (.map x11)) (.map x14)) ∧
          (SameV (some (.string name0)) (.string name0)) ∧
          RunU Tryz.prog (Instr.mapUpdate 155 (.map x11) (.string name0) (.pointer (some (Addr.mk b3 0 none)))) h_12 fun h_13 =>
          NN' x0 fun a11 =>
          Ld h_13 (a11.add 0) fun v9 => DM v9 fun x15 =>
          CallsH Tryz.prog 102 [.map x15] h_13 fun r12 h_14 =>
          DM r12 fun x16 =>
          NN' x0 fun a12 =>
          StC h_14 ((a12.add 1).add 0) (.map x16) fun h_16 =>
          NN' x0 fun a13 =>
          StC h_16 ((a13.add 2).add 0) (.slice none 0 0) fun h_18 =>
          CallsH Tryz.prog 105 [.pointer f0] h_18 fun r15 h_19 =>
          r15 = .tuple #[] ∧
          Q (.int .i64 0) h_19))))
theorem F78b_eq : (fun (f0 : Option Addr) (dir0 : ByteArray) (name0 : ByteArray) (b0a : Option Addr) (b0l : Nat) (b0c : Nat) (h : Heap) (Q : Value → Heap → Prop) => fnPT Tryz.prog Tryz.f78 (fun _ => annNil) (fun _ => []) (fun i => bif Nat.beq i 10 then some ⟨[0, 1, 3, 7, 0, 0, 32, 0, 128, 480, 992, 2047], 3136⟩ else none) [.pointer f0, .string dir0, .string name0, .slice b0a b0l b0c] h Q) = F78b := by kernel_rfl
theorem F78b_ok {f0 : Option Addr} {dir0 : ByteArray} {name0 : ByteArray} {b0a : Option Addr} {b0l : Nat} {b0c : Nat} {h : Heap} {Q : Value → Heap → Prop} (H : F78b f0 dir0 name0 b0a b0l b0c h Q) : CallsH Tryz.prog 78 [.pointer f0, .string dir0, .string name0, .slice b0a b0l b0c] h Q :=
  callsH_of (ann := fun _ => annNil) (tys := fun _ => []) (pl := fun i => bif Nat.beq i 10 then some ⟨[0, 1, 3, 7, 0, 0, 32, 0, 128, 480, 992, 2047], 3136⟩ else none) Tryz.func78 (by kernel_rfl) (by have e := F78b_eq; exact (congrFun (congrFun (congrFun (congrFun (congrFun (congrFun (congrFun (congrFun (e) f0) dir0) name0) b0a) b0l) b0c) h) Q).symm ▸ H)

end Go.Proofs.YticjjdhaikbdaaaGreat
