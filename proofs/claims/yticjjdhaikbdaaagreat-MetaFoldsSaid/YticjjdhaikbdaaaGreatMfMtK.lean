/- MetaNil. -/
import Derived.Test.YticjjdhaikbdaaaGreatMfMtJ
namespace Go.Proofs.YticjjdhaikbdaaaGreat
open Go Go.RowKit Go.MapKept
set_option linter.unusedVariables false
set_option linter.unusedSimpArgs false
section
variable {F : List HProp} {h : Heap} {dir : ByteArray}
set_option maxHeartbeats 1000000 in
end
end Go.Proofs.YticjjdhaikbdaaaGreat
