/- Maps that are cloned; the sorted keys of the second map type. -/
import Derived.Test.YtfpdejkcjijmmaaQiFs2S
import Derived.Test.YtfpdejkcjijmmaaQiCloneS
namespace Go.Proofs.Ytfpdejkcjijmmaa.TS
open Go Go.RowKit Go.MapKept
set_option linter.unusedVariables false
set_option linter.unusedSimpArgs false

end Go.Proofs.Ytfpdejkcjijmmaa.TS
