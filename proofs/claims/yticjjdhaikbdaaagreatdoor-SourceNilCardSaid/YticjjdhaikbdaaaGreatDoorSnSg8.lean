/- How large segments are counts for nothing: the law. -/
import Derived.Test.YticjjdhaikbdaaaGreatDoorSnSgA
import Derived.SliceStrings
namespace Go.Proofs.YticjjdhaikbdaaaGreatDoor
open Go Go.RowKit Go.ChangeShapes Go.WideShapes Go.ChangeAt
set_option linter.unusedVariables false
set_option linter.unusedSimpArgs false
open Frame (packN packN_length packN_B8)

section
variable {ra : Option Addr} {rl rc : Nat} {recs : List ByteArray} {h : Heap}
end

section
variable {H : Type} {enc : TypeId × Value → H} {P : Program} {w : World} {base : Nat} {spare : Nat → Bool} {held : Bool}
end

end Go.Proofs.YticjjdhaikbdaaaGreatDoor
