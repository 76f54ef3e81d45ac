/- The laws TableBack and TableDiffs (seat T). -/
import Derived.Test.YtfpdejkcjijmmaaQiTb9
import Derived.Test.YtfpdejkcjijmmaaQiTbL
namespace Go.Proofs.Ytfpdejkcjijmmaa.TS
open Go Go.RowKit
open Tb (T get set del Up Has)
open AF (ltB strLt_irrefl strLt_trans strLt_total)
set_option linter.unusedVariables false
set_option linter.unusedSimpArgs false

end Go.Proofs.Ytfpdejkcjijmmaa.TS
