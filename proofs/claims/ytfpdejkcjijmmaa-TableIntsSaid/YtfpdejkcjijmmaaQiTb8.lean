/- The document's answer on what changed (seat T). -/
import Derived.Test.YtfpdejkcjijmmaaQiTb7
namespace Go.Proofs.Ytfpdejkcjijmmaa.TS
open Go Go.RowKit
open Tb (T get set del Up Has)
open AF (ltB strLt_irrefl strLt_trans strLt_total)
set_option linter.unusedVariables false
set_option linter.unusedSimpArgs false

theorem get_cons {V : Type} (p : ByteArray × V) (l : T V) (k : ByteArray) : get (p :: l) k = if p.1 = k then some p.2 else get l k := by
  unfold Tb.get
  rw [List.find?_cons]
  by_cases e : p.1 = k
  · simp [e]
  · simp [e]
theorem Diffs.uniq {a b : T VT} {d e : List Ch} (D : Diffs a b d) (E : Diffs a b e) : d = e := Tb.Up.ext D.up E.up fun k => by rw [D.at_, E.at_]
section
variable {h : Heap} {F : List HProp} {pa pb : Option Addr} {n m ca cb : Nat} {a b : T VT}
end

end Go.Proofs.Ytfpdejkcjijmmaa.TS
