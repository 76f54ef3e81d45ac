/- Slices of whole numbers that came in. -/
import Derived.Test.YticjjdhaikbdaaaFs24
namespace Go.Proofs.Yticjjdhaikbdaaa
open Go Go.RowKit
set_option linter.unusedVariables false

theorem row_readI {w : World} {a : Option Addr} {len cap : Nat} {zs : List Int}
    (H : (a = none ∧ len = 0 ∧ cap = 0 ∧ zs = []) ∨ ∃ x, a = some x ∧ len ≤ cap ∧ cap ≤ maxLen ∧ zs.length = cap ∧ (∀ i, i < zs.length → w.cell? (x.add i) = some (.int .i64 (zs.getD i 0))) ∧ ∀ n ∈ zs, (Lit.int .i64 n).wf = true) :
    ∃ cs : List Int, RdC w.heap a (cs.map iv) ∧ cs.length = len ∧ len ≤ cap := by
  rcases H with ⟨rfl, rfl, rfl, rfl⟩ | ⟨x, rfl, hl, hc, hz, hcell, hwf⟩
  · exact ⟨[], rfl, rfl, Nat.zero_le _⟩
  · refine ⟨zs.take len, ?_, by rw [List.length_take]; omega, hl⟩
    intro j v hv
    rw [List.getElem?_map, List.getElem?_take] at hv
    split at hv
    · rename_i hj
      cases hzj : zs[j]? with
      | none => rw [hzj] at hv; cases hv
      | some z =>
        rw [hzj] at hv
        simp only [Option.map_some, Option.some.injEq] at hv
        subst hv
        have hc2 := hcell j (by omega)
        rw [cell_world, List.getD_eq_getElem?_getD, hzj] at hc2
        exact hc2
    · cases hv

end Go.Proofs.Yticjjdhaikbdaaa
