/- Changes done (seat T). -/
import Derived.Test.YtfpdejkcjijmmaaQiTb6
namespace Go.Proofs.Ytfpdejkcjijmmaa.TS
open Go Go.RowKit
open Tb (T get set del Up Has)
open AF (ltB strLt_irrefl strLt_trans strLt_total)
set_option linter.unusedVariables false
set_option linter.unusedSimpArgs false

theorem appL_take {l : T VT} {es : List Ch} {i : Nat} {x : Ch} (h : es[i]? = some x) : appL l (es.take (i + 1)) = if x.2.2 = true then del (appL l (es.take i)) x.1 else set x.1 x.2.1 (appL l (es.take i)) := by
  unfold appL
  rw [List.take_add_one, h, List.foldl_append]
  rfl
section
variable {h : Heap} {F : List HProp} {a : Option Addr} {n c : Nat}
end

end Go.Proofs.Ytfpdejkcjijmmaa.TS
