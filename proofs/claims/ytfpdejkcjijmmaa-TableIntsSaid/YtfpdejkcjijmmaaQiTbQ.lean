/- Calls and changes that came in (seat T). -/
import Derived.Test.YtfpdejkcjijmmaaQiFlatIn
import Derived.Test.YtfpdejkcjijmmaaQiTb9
namespace Go.Proofs.Ytfpdejkcjijmmaa
open Go Go.RowKit Go.ChangeShapes Go.WideShapes Go.ChangeAt
set_option linter.unusedVariables false
set_option linter.unusedSimpArgs false

section
variable {H : Type} {enc : TypeId × Value → H} {P : Program} {w : World} {base : Nat} {spare : Nat → Bool} {held : Bool}
theorem u8s_open {r : Reach} {b0 : Nat} {t e : TypeId} {v : Value} {d : DataW H} {p : List MemPlace}
    (ht : P.underlying t = some (.slice e)) (he : P.underlying e = some (.int .u8)) (hc : P.cellsOf e = 1) (hv : Value.okWide P w r b0 t v) (h : DataW.Trod enc P w base spare held t v d p) :
    ∃ (a : Option Addr) (l c : Nat) (cs : List Nat), v = .slice a l c ∧ cs.length = l ∧ l ≤ maxLen ∧ RdC w.heap a (cs.map nv) := by
  obtain ⟨a, l, c, rfl⟩ := okWide_slice ht hv
  obtain ⟨fuel, hf⟩ := h
  rcases open_ints ht he hc hf with ⟨hcs, _⟩ | ⟨a', len, cap, zs, hcs, _, hl, hm, hz, _, hcell, hwf⟩
  · simp [Value.cells] at hcs
    obtain ⟨rfl, rfl, rfl⟩ := hcs
    exact ⟨none, 0, 0, [], rfl, rfl, Nat.zero_le _, rfl⟩
  · simp [Value.cells] at hcs
    obtain ⟨rfl, rfl, rfl⟩ := hcs
    have hzl : l ≤ zs.length := by
      rw [hz]
      split <;> omega
    refine ⟨some a', l, c, (zs.take l).map Int.toNat, rfl, by rw [List.length_map, List.length_take]; omega, Nat.le_trans hl hm, ?_⟩
    intro j v hv
    rw [List.map_map, List.getElem?_map, List.getElem?_take] at hv
    split at hv
    · rename_i hj
      have h2 := hcell j (by omega)
      rw [List.getElem?_eq_getElem (by omega)] at hv
      simp only [Option.map_some, Option.some.injEq, Function.comp] at hv
      rw [cell_world, List.getD_eq_getElem?_getD, List.getElem?_eq_getElem (by omega)] at h2
      obtain ⟨n, hn, _⟩ := wf_nat8 (hwf zs[j] (List.getElem_mem _))
      rw [h2, ← hv, Option.getD_some, hn]
      rfl
    · cases hv
end

end Go.Proofs.Ytfpdejkcjijmmaa
