/- The texts over heaps of functions of the program: written by a program of this claim's writer (decomp.py); Lean checks each against the code. -/
import Derived.Test.YticjjdhaikbdaaaGreatPpFwA
import Derived.Test.YticjjdhaikbdaaaGreatProg
namespace Go.Proofs.YticjjdhaikbdaaaGreat
open Go Go.RowKit
set_option linter.unusedVariables false
set_option maxRecDepth 100000

end Go.Proofs.YticjjdhaikbdaaaGreat
