/- Files by their places: plain. Raw: the walk. Raw and Put: the walks. Get, Clean: the walks. Ready, Hex: the walks. Hex: what it computes, and that digits stand as numbers do. The chapter's examples; PlaceNil, PlaceSorts. -/
import Derived.Test.YticjjdhaikbdaaaFyFpA
import Derived.Test.YticjjdhaikbdaaaFyCrA
import Derived.Test.YticjjdhaikbdaaaFyTd

namespace Go.Proofs.Yticjjdhaikbdaaa
open Go
set_option linter.unusedVariables false
set_option linter.unusedSimpArgs false

namespace AF
open Frame (packN firstN)
def tmpN : ByteArray := ⟨#[116, 109, 112, 46]⟩
/-- One thing behind the other, up to the first that fails. -/
def seqF : List (FS → FS × Nat) → FS → FS × Nat
  | [], A => (A, 0)
  | g :: gs, A => if (g A).2 = 0 then seqF gs (g A).1 else g A
def rawSteps (dir name : ByteArray) (bs : List Nat) : List (FS → FS × Nat) :=
  [fun A => A.create dir (tmpN ++ name), fun A => A.append dir (tmpN ++ name) bs, fun A => A.sync dir (tmpN ++ name), fun A => A.rename dir (tmpN ++ name) name, fun A => A.syncDir dir]
def rawAll (dir name : ByteArray) (bs : List Nat) (l : List ByteArray) : List (FS → FS × Nat) :=
  if (l.any fun s => decide (s = tmpN ++ name)) = true then (fun A : FS => A.remove dir (tmpN ++ name)) :: rawSteps dir name bs else rawSteps dir name bs
def FS.raw (A : FS) (dir name : ByteArray) (bs : List Nat) : FS × Nat :=
  if 28 < name.size then (A, 65) else match A.list dir with
    | .error e => (A, e)
    | .ok l => seqF (rawAll dir name bs l) A
def FS.put (A : FS) (dir name : ByteArray) (bs : List Nat) : FS × Nat := if 16777208 < bs.length then (A, 50) else A.raw dir name (packN bs)
def FS.get (A : FS) (dir name : ByteArray) : Except Nat (List Nat) := match A.read dir name with
  | .error e => .error e
  | .ok b => match firstN b with
    | some x => if x.length + 8 = b.length then .ok x else .error 70
    | none => .error 70
/-! ### steps -/
variable {A : FS}
end AF

end Go.Proofs.Yticjjdhaikbdaaa

namespace Go.Proofs.Yticjjdhaikbdaaa
open Go Go.RowKit
set_option linter.unusedVariables false
set_option linter.unusedSimpArgs false

section
variable {b : Nat} {A : AF.FS} {F C : List HProp} {h : Heap}
end

end Go.Proofs.Yticjjdhaikbdaaa

namespace Go.Proofs.Yticjjdhaikbdaaa
open Go Go.RowKit
set_option linter.unusedVariables false
set_option linter.unusedSimpArgs false

section
variable {b b1 b2 b3 b4 b5 : Nat} {A : AF.FS} {F C : List HProp} {h : Heap} {dir name t : ByteArray} {ba : Option Addr} {bl bc : Nat} {bs : List Nat}
end

end Go.Proofs.Yticjjdhaikbdaaa

namespace Go.Proofs.Yticjjdhaikbdaaa
open Go Go.RowKit
set_option linter.unusedVariables false
set_option linter.unusedSimpArgs false

section
variable {b : Nat} {A : AF.FS} {F C : List HProp} {h : Heap} {dir name : ByteArray}
end
namespace AF
end AF
section
variable {b : Nat} {A : AF.FS} {F C : List HProp} {h : Heap} {dir name : ByteArray}
end

end Go.Proofs.Yticjjdhaikbdaaa

namespace Go.Proofs.Yticjjdhaikbdaaa
open Go Go.RowKit
set_option linter.unusedVariables false
set_option linter.unusedSimpArgs false

section
variable {b : Nat} {A : AF.FS} {F C : List HProp} {h : Heap} {dir name : ByteArray}
end

end Go.Proofs.Yticjjdhaikbdaaa

namespace Go.Proofs.Yticjjdhaikbdaaa
open Go Go.RowKit
set_option linter.unusedVariables false
set_option linter.unusedSimpArgs false

namespace Hex
def hexd (k : Nat) : Nat := if k < 10 then 48 + k else 87 + k
/-- So many digits of base 16. -/
def digs : Nat → Nat → List Nat
  | 0, _ => []
  | k + 1, m => hexd (m / 16 ^ k % 16) :: digs k m
theorem digs_length : ∀ k m, (digs k m).length = k
  | 0, _ => rfl
  | k + 1, m => by rw [digs, List.length_cons, digs_length k m]
theorem hexd_lt {x : Nat} (h : x < 16) : hexd x < 256 := by unfold hexd; split <;> omega
theorem digs_B8 : ∀ k m, B8 (digs k m)
  | 0, _ => fun n h => by cases h
  | k + 1, m => fun n h => by
    rcases List.mem_cons.1 h with rfl | h
    · exact hexd_lt (Nat.mod_lt _ (by omega))
    · exact digs_B8 k m n h
end Hex
open Hex (hexd digs)
section
variable {F : List HProp} {h : Heap}
end

end Go.Proofs.Yticjjdhaikbdaaa

namespace Go.Proofs.Yticjjdhaikbdaaa
open Go Go.RowKit
set_option linter.unusedVariables false
set_option linter.unusedSimpArgs false

namespace AF
end AF
section
variable {F : List HProp} {h : Heap} {dir name : ByteArray} {a : Option Addr} {l c : Nat}
end

end Go.Proofs.Yticjjdhaikbdaaa
