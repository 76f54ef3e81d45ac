/- The document's answer on tables (seat T). -/
import Derived.Test.YtibdiikcigokjaaGreatSnTb6
namespace Go.Proofs.YtibdiikcigokjaaGreat.TS
open Go Go.RowKit
open Tb (T get set del Up Has)
open AF (ltB strLt_irrefl strLt_trans strLt_total)
set_option linter.unusedVariables false
set_option linter.unusedSimpArgs false

abbrev Pr := ByteArray × ByteArray
abbrev pairC (p : Pr) : List Value := [.string p.1, .string p.2]
section
variable {h : Heap} {F : List HProp} {a : Option Addr} {n c : Nat} {l : T VT}
end

end Go.Proofs.YtibdiikcigokjaaGreat.TS
