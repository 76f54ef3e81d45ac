/- Maps that are cloned; the sorted keys of the second map type. -/
import Derived.Test.YtfpdejkcjijmmaaQsFs2U
import Derived.Test.YtfpdejkcjijmmaaQsCloneU
namespace Go.Proofs.Ytfpdejkcjijmmaa.TU
open Go Go.RowKit Go.MapKept
set_option linter.unusedVariables false
set_option linter.unusedSimpArgs false

end Go.Proofs.Ytfpdejkcjijmmaa.TU
