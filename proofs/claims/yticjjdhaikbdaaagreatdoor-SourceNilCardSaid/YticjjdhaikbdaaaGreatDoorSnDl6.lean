/- The laws SourceDeals and SourceFair (seat D). -/
import Derived.Test.YticjjdhaikbdaaaGreatDoorSnDl4
import Derived.Test.YticjjdhaikbdaaaGreatDoorSnDl5
namespace Go.Proofs.YticjjdhaikbdaaaGreatDoor
open Go Go.RowKit
open Dl (LP isOpen cnt pass Ref Fits sm pos got all Lvl Ord)
set_option linter.unusedVariables false
set_option linter.unusedSimpArgs false
set_option maxRecDepth 8000

abbrev i32 (x : Int) : Value := .int .i32 x
end Go.Proofs.YticjjdhaikbdaaaGreatDoor
