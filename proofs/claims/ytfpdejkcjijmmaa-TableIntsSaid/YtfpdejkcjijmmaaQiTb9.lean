/- Changes done; tables made; what a table has (seat T). -/
import Derived.Test.YtfpdejkcjijmmaaQiTb8
import Derived.Test.YtfpdejkcjijmmaaQiTbA
namespace Go.Proofs.Ytfpdejkcjijmmaa.TS
open Go Go.RowKit
open Tb (T get set del Up Has)
open AF (ltB strLt_irrefl strLt_trans strLt_total)
set_option linter.unusedVariables false
set_option linter.unusedSimpArgs false

abbrev Op := Int × ByteArray × ByteArray
/-- A table behind Puts. -/
def mk (os : List Op) : T VT := os.foldl (fun l o => set o.2.1 o.2.2 l) []
section
variable {h : Heap} {F : List HProp} {a : Option Addr} {n c : Nat}
end

end Go.Proofs.Ytfpdejkcjijmmaa.TS
