/- MetaNil. -/
import Derived.Test.YticjjdhaikbdaaaGreatMkMtJ
namespace Go.Proofs.YticjjdhaikbdaaaGreat
open Go Go.RowKit Go.MapKept
set_option linter.unusedVariables false
set_option linter.unusedSimpArgs false
section
variable {F : List HProp} {h : Heap} {dir : ByteArray}
end
end Go.Proofs.YticjjdhaikbdaaaGreat
