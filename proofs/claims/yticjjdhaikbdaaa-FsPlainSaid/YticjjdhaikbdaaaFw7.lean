/- The words of the printed texts. -/
import Derived.Test.YticjjdhaikbdaaaFw6
namespace Go.Proofs.Yticjjdhaikbdaaa
open Go Go.RowKit

def Ld (h : Heap) (a : Addr) (K : Value → Prop) : Prop := ∃ v, cellAt h a = some v ∧ K v
def DI (k : IntKind) (v : Value) (K : Int → Prop) : Prop := ∃ x : Int, v = .int k x ∧ K x
def DB (v : Value) (K : Bool → Prop) : Prop := ∃ x : Bool, v = .bool x ∧ K x
def DS (v : Value) (K : ByteArray → Prop) : Prop := ∃ x : ByteArray, v = .string x ∧ K x
def DP (v : Value) (K : Option Addr → Prop) : Prop := ∃ x : Option Addr, v = .pointer x ∧ K x
def DM (v : Value) (K : Option Nat → Prop) : Prop := ∃ x : Option Nat, v = .map x ∧ K x
def DSl (v : Value) (K : Option Addr → Nat → Nat → Prop) : Prop := ∃ (p : Option Addr) (l c : Nat), v = .slice p l c ∧ K p l c
def Al (h : Heap) (o : Obj) (K : Nat → Heap → Prop) : Prop := K h.size (h.push o)
def StC (h : Heap) (a : Addr) (v : Value) (K : Heap → Prop) : Prop := (∃ u, cellAt h a = some u) ∧ frozenAt h a = false ∧ K (setC h a v)

end Go.Proofs.Yticjjdhaikbdaaa
