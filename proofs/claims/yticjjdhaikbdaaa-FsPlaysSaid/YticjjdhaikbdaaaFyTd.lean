/- The texts over heaps of functions of the program: written by a program of this claim's writer (decomp.py); Lean checks each against the code. -/
import Derived.Test.YticjjdhaikbdaaaFyFwA
import Derived.Test.YticjjdhaikbdaaaProg
namespace Go.Proofs.Yticjjdhaikbdaaa
open Go Go.RowKit
set_option linter.unusedVariables false
set_option maxRecDepth 100000

/-- (*headgate/simfs.FS).Plant -/
def F71b (f0 : Option Addr) (dir0 : ByteArray) (name0 : ByteArray) (b0a : Option Addr) (b0l : Nat) (b0c : Nat) (h : Heap) (Q : Value → Heap → Prop) : Prop :=
  (bif (f0).isNone then
    Q (.int .i64 1) h
  else
    Al h (.cells #[.string name0] 9) fun b1 h_0 =>
    CallsH Try.prog 107 [.pointer f0, .string dir0, .slice (some (Addr.mk b1 0 none)) 1 1] h_0 fun r1 h_1 =>
    ∃ (x0 : Option Addr), ∃ (x1 : Int), r1 = .tuple #[.pointer x0, .int .i64 x1] ∧
    (bif (x1 : Int) != 0 then
      Q (.int .i64 x1) h_1
    else
      (bif decide (((b0l : Int) : Int) > 16777216) then
        Q (.int .i64 67) h_1
      else
        NN' x0 fun a0 =>
        Ld h_1 (a0.add 0) fun v0 => DM v0 fun x2 =>
        ∃ es0, mapEs h_1 x2 es0 ∧ ∃ f1, Instr.findNow .string (.string name0) (es0 : Array MapEntry).toList 0 = some f1 ∧
        DP ((Option.map (fun x => x.2) f1).getD (.pointer none)) fun x3 =>
        (bif (x3).isNone then
          NN' x0 fun a1 =>
          Ld h_1 (a1.add 0) fun v1 => DM v1 fun x4 =>
          ∃ es1, mapEs h_1 x4 es1 ∧
          (bif decide ((((es1 : Array MapEntry).size : Int) : Int) ≥ 4096) then
            Q (.int .i64 66) h_1
          else
            NN' x0 fun a2 =>
            Ld h_1 (a2.add 0) fun v2 => DM v2 fun x5 =>
            CallsH Try.prog 67 [.slice b0a b0l b0c] h_1 fun r2 h_2 =>
            DSl r2 fun x6a x6l x6c =>
            (SameV (some (.pointer x0)) (.pointer x0)) ∧
            (NN' x0 fun a3 =>
            SameV (some (.pointer (some a2))) (.pointer (some a3))) ∧
            (SameV (some (.pointer (some (a2.add 0)))) (.pointer (some (a2.add 0)))) ∧
            (Ld h_2 (a2.add 0) fun v3 => DM v3 fun x7 =>
            SameV (some (.map x5)) (.map x7)) ∧
            (SameV (some (.string name0)) (.string name0)) ∧
            (SameV (some (.slice b0a b0l b0c)) (.slice b0a b0l b0c)) ∧
            (SameV (some (.int .i64 (b0l : Int))) (.int .i64 (b0l : Int))) ∧
            Al h_2 (.cells #[.slice x6a x6l x6c, .int .i64 (b0l : Int)] 94) fun b2 h_3 =>
            (SameV (some (.pointer x0)) (.pointer x0)) ∧
            (NN' x0 fun a4 =>
            SameV (some (.pointer (some a2))) (.pointer (some a4))) ∧
            (SameV (some (.pointer (some (a2.add 0)))) (.pointer (some (a2.add 0)))) ∧
            (Ld h_3 (a2.add 0) fun v4 => DM v4 fun x8 =>
            SameV (some (.map x5)) (.map x8)) ∧
            (SameV (some (.string name0)) (.string name0)) ∧
            RunU Try.prog (Instr.mapUpdate 88 (.map x5) (.string name0) (.pointer (some (Addr.mk b2 0 none)))) h_3 fun h_4 =>
            NN' x0 fun a5 =>
            Ld h_4 (a5.add 0) fun v5 => DM v5 fun x9 =>
            CallsH Try.prog 61 [.map x9] h_4 fun r5 h_5 =>
            DM r5 fun x10 =>
            NN' x0 fun a6 =>
            StC h_5 ((a6.add 1).add 0) (.map x10) fun h_7 =>
            NN' x0 fun a7 =>
            StC h_7 ((a7.add 2).add 0) (.slice none 0 0) fun h_9 =>
            CallsH Try.prog 66 [.pointer f0] h_9 fun r8 h_10 =>
            r8 = .tuple #[] ∧
            Q (.int .i64 0) h_10)
        else
          NN' x0 fun a8 =>
          Ld h_1 (a8.add 0) fun v6 => DM v6 fun x11 =>
          CallsH Try.prog 67 [.slice b0a b0l b0c] h_1 fun r9 h_11 =>
          DSl r9 fun x12a x12l x12c =>
          (SameV (some (.pointer x0)) (.pointer x0)) ∧
          (NN' x0 fun a9 =>
          SameV (some (.pointer (some a8))) (.pointer (some a9))) ∧
          (SameV (some (.pointer (some (a8.add 0)))) (.pointer (some (a8.add 0)))) ∧
          (Ld h_11 (a8.add 0) fun v7 => DM v7 fun x13 =>
          SameV (some (.map x11)) (.map x13)) ∧
          (SameV (some (.string name0)) (.string name0)) ∧
          (SameV (some (.slice b0a b0l b0c)) (.slice b0a b0l b0c)) ∧
          (SameV (some (.int .i64 (b0l : Int))) (.int .i64 (b0l : Int))) ∧
          Al h_11 (.cells #[.slice x12a x12l x12c, .int .i64 (b0l : Int)] 94) fun b3 h_12 =>
          (SameV (some (.pointer x0)) (.pointer x0)) ∧
          (NN' x0 fun a10 =>
          SameV (some (.pointer (some a8))) (.pointer (some a10))) ∧
          (SameV (some (.pointer (some (a8.add 0)))) (.pointer (some (a8.add 0)))) ∧
          (Ld h_12 (a8.add 0) fun v8 => DM v8 fun x14 =>
          SameV (some (.map x11)) (.map x14)) ∧
          (SameV (some (.string name0)) (.string name0)) ∧
          RunU Try.prog (Instr.mapUpdate 88 (.map x11) (.string name0) (.pointer (some (Addr.mk b3 0 none)))) h_12 fun h_13 =>
          NN' x0 fun a11 =>
          Ld h_13 (a11.add 0) fun v9 => DM v9 fun x15 =>
          CallsH Try.prog 61 [.map x15] h_13 fun r12 h_14 =>
          DM r12 fun x16 =>
          NN' x0 fun a12 =>
          StC h_14 ((a12.add 1).add 0) (.map x16) fun h_16 =>
          NN' x0 fun a13 =>
          StC h_16 ((a13.add 2).add 0) (.slice none 0 0) fun h_18 =>
          CallsH Try.prog 66 [.pointer f0] h_18 fun r15 h_19 =>
          r15 = .tuple #[] ∧
          Q (.int .i64 0) h_19))))
theorem F71b_eq : (fun (f0 : Option Addr) (dir0 : ByteArray) (name0 : ByteArray) (b0a : Option Addr) (b0l : Nat) (b0c : Nat) (h : Heap) (Q : Value → Heap → Prop) => fnPT Try.prog Try.f71 (fun _ => annNil) (fun _ => []) (fun i => bif Nat.beq i 10 then some ⟨[0, 1, 3, 7, 0, 0, 32, 0, 128, 480, 992, 2047], 3136⟩ else none) [.pointer f0, .string dir0, .string name0, .slice b0a b0l b0c] h Q) = F71b := by kernel_rfl
theorem F71b_ok {f0 : Option Addr} {dir0 : ByteArray} {name0 : ByteArray} {b0a : Option Addr} {b0l : Nat} {b0c : Nat} {h : Heap} {Q : Value → Heap → Prop} (H : F71b f0 dir0 name0 b0a b0l b0c h Q) : CallsH Try.prog 71 [.pointer f0, .string dir0, .string name0, .slice b0a b0l b0c] h Q :=
  callsH_of (ann := fun _ => annNil) (tys := fun _ => []) (pl := fun i => bif Nat.beq i 10 then some ⟨[0, 1, 3, 7, 0, 0, 32, 0, 128, 480, 992, 2047], 3136⟩ else none) Try.func71 (by kernel_rfl) (by have e := F71b_eq; exact (congrFun (congrFun (congrFun (congrFun (congrFun (congrFun (congrFun (congrFun (e) f0) dir0) name0) b0a) b0l) b0c) h) Q).symm ▸ H)

end Go.Proofs.Yticjjdhaikbdaaa
