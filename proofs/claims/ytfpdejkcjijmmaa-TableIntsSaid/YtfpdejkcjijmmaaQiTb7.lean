/- The document's answer on tables (seat T). -/
import Derived.Test.YtfpdejkcjijmmaaQiTb6
namespace Go.Proofs.Ytfpdejkcjijmmaa.TS
open Go Go.RowKit
open Tb (T get set del Up Has)
open AF (ltB strLt_irrefl strLt_trans strLt_total)
set_option linter.unusedVariables false
set_option linter.unusedSimpArgs false

section
variable {h : Heap} {F : List HProp} {a : Option Addr} {n c : Nat} {l : T VT}
end

end Go.Proofs.Ytfpdejkcjijmmaa.TS
