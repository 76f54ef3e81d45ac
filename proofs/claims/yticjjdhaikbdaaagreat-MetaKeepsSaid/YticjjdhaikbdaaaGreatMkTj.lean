/- The texts over heaps of functions of the program: written by a program of this claim's writer (decomp.py); Lean checks each against the code. -/
import Derived.Test.YticjjdhaikbdaaaGreatMkFwA
import Derived.Test.YticjjdhaikbdaaaGreatProg
namespace Go.Proofs.YticjjdhaikbdaaaGreat
open Go Go.RowKit
set_option linter.unusedVariables false
set_option maxRecDepth 100000

/-- (*headgate/metalog.Log).All$1 -/
def F99 (yield0f : Fn) (yield0p : Array Value) (yield0c : Array Value) (c0 : Addr) (h : Heap) (Q : Value → Heap → Prop) : Prop :=
  Al h (.cells #[.func yield0f yield0p yield0c] 150) fun b0 h_0 =>
  Ld h_0 c0 fun v0 => DM v0 fun x0 =>
  CallsH Tryz.prog 91 [.map x0] h_0 fun r1 h_1 =>
  ∃ (x1 : Value), r1 = x1 ∧
  RangeFn Tryz.prog x1 2 none h_1 (fun l_0 rec_0 args0 h_2 Q_0 =>
    ∃ (y0 : Int), ∃ (y1a : Option Addr), ∃ (y1l : Nat), ∃ (y1c : Nat), args0 = [.int .i64 y0, .slice y1a y1l y1c] ∧
    h_2[l_0]? = some (rec_0 .ready none) ∧
    Ld (h_2.setIfInBounds l_0 (rec_0 .busy none)) (Addr.mk b0 0 none) fun v1 => ∃ (x2 : Value), v1 = x2 ∧
    CallsH Tryz.prog 94 [.slice y1a y1l y1c] (h_2.setIfInBounds l_0 (rec_0 .busy none)) fun r2 h_3 =>
    DSl r2 fun x3a x3l x3c =>
    (Ld h_3 (Addr.mk b0 0 none) fun v2 => ∃ (x4 : Value), v2 = x4 ∧
    SameV (some x2) x4) ∧
    (SameV (some (.int .i64 y0)) (.int .i64 y0)) ∧
    CallV Tryz.prog x2 [.int .i64 y0, .slice x3a x3l x3c] h_3 fun r3 h_4 =>
    DB r3 fun x5 =>
    (bif !x5 then
      h_4[l_0]? = some (rec_0 .busy none) ∧ Q_0 (.bool false) (h_4.setIfInBounds l_0 (rec_0 .done (some .ret)))
    else
      h_4[l_0]? = some (rec_0 .busy none) ∧ Q_0 (.bool true) (h_4.setIfInBounds l_0 (rec_0 .ready none)))) (fun pend0 h_5 =>
    (pend0 = none ∨ pend0 = some (.ret)) ∧
    (pend0 = none →
      h_5[h_1.size]? = some (.deferred (some [])) ∧
      Q (.tuple #[]) (h_5.setIfInBounds h_1.size (.deferred none))) ∧
    (pend0 = some (.ret) →
      h_5[h_1.size]? = some (.deferred (some [])) ∧
      Q (.tuple #[]) (h_5.setIfInBounds h_1.size (.deferred none))))
theorem F99_eq : (fun (yield0f : Fn) (yield0p : Array Value) (yield0c : Array Value) (c0 : Addr) (h : Heap) (Q : Value → Heap → Prop) => fnPT Tryz.prog Tryz.f99 (fun _ => annNil) (fun i => bif Nat.beq i 0 then [2, 40] else []) (fun i => bif Nat.beq i 4 then some ⟨[0, 0, 0, 4, 15, 31], 24⟩ else none) [.func yield0f yield0p yield0c, .pointer (some c0)] h Q) = F99 := by kernel_rfl
theorem F99_ok {yield0f : Fn} {yield0p : Array Value} {yield0c : Array Value} {c0 : Addr} {h : Heap} {Q : Value → Heap → Prop} (H : F99 yield0f yield0p yield0c c0 h Q) : CallsH Tryz.prog 99 [.func yield0f yield0p yield0c, .pointer (some c0)] h Q :=
  callsH_of (ann := fun _ => annNil) (tys := fun i => bif Nat.beq i 0 then [2, 40] else []) (pl := fun i => bif Nat.beq i 4 then some ⟨[0, 0, 0, 4, 15, 31], 24⟩ else none) Tryz.func99 (by kernel_rfl) (by have e := F99_eq; exact (congrFun (congrFun (congrFun (congrFun (congrFun (congrFun (e) yield0f) yield0p) yield0c) c0) h) Q).symm ▸ H)

end Go.Proofs.YticjjdhaikbdaaaGreat
