/- Slices of flat structs that came in, read (seat T; needs nothing of the program). -/
import Derived.Test.YtfpdejkcjijmmaaQiFwB
import Derived.Deep.Slices
import Derived.ChangeSlices
import Derived.ChangeArms
import Derived.WideShapes
import Derived.ProofKit
import Derived.OpenShut
import Derived.ChangeOld
namespace Go.Proofs.Ytfpdejkcjijmmaa
open Go Go.RowKit Go.ChangeShapes Go.WideShapes Go.ChangeAt
set_option linter.unusedVariables false
set_option linter.unusedSimpArgs false

inductive Kd where
  | int
  | str
  | bool
inductive Sc where
  | int (z : Int)
  | str (b : ByteArray)
  | bool (x : Bool)
def Sc.v : Sc → Value
  | .int z => .int .i64 z
  | .str b => .string b
  | .bool x => .bool x
def kdI : TypeDesc → Bool
  | .int .i64 => true
  | _ => false
def kdS : TypeDesc → Bool
  | .string => true
  | _ => false
def kdB : TypeDesc → Bool
  | .bool => true
  | _ => false
def Kd.is : Kd → TypeDesc → Bool
  | .int => kdI
  | .str => kdS
  | .bool => kdB
def Kd.of : Kd → Sc → Prop
  | .int, .int z => -9223372036854775808 ≤ z ∧ z ≤ 9223372036854775807
  | .str, .str _ => True
  | .bool, .bool _ => True
  | _, _ => False
section
variable {H : Type} {enc : TypeId × Value → H} {P : Program} {w : World} {base : Nat} {spare : Nat → Bool} {held : Bool}
end

end Go.Proofs.Ytfpdejkcjijmmaa
