/- Whole numbers that came in (seat D). -/
import Derived.Test.YtdpaiiibndnanaaGreatDoorQpDl4
import Derived.Deep.Slices
import Derived.ChangeSlices
import Derived.ChangeArms
import Derived.WideShapes
import Derived.ProofKit
import Derived.OpenShut
import Derived.ChangeOld
namespace Go.Proofs.YtdpaiiibndnanaaGreatDoor
open Go Go.RowKit Go.ChangeShapes Go.WideShapes Go.ChangeAt
set_option linter.unusedVariables false
set_option linter.unusedSimpArgs false
end Go.Proofs.YtdpaiiibndnanaaGreatDoor
