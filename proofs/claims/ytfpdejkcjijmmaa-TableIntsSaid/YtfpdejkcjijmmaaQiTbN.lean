/- The law TablePlays (seat T). -/
import Derived.Test.YtfpdejkcjijmmaaQiTbM
namespace Go.Proofs.Ytfpdejkcjijmmaa.TS
open Go Go.RowKit
open Tb (T get set del Up Has)
open AF (ltB strLt_irrefl strLt_trans strLt_total)
set_option linter.unusedVariables false
set_option linter.unusedSimpArgs false

/-- Marks that are left at the end. -/
def marks : List Nat → HProp
  | [] => Many []
  | d :: ds => Many [markD d, marks ds]
end Go.Proofs.Ytfpdejkcjijmmaa.TS
