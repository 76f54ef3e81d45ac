/- What StateKeeps is handed (seat S). -/
import Derived.Test.YtibdiikcigokjaaGreatSkStO
import Derived.Test.YtibdiikcigokjaaGreatSkStL
namespace Go.Proofs.YtibdiikcigokjaaGreat
open Go Go.RowKit Go.ChangeShapes Go.WideShapes Go.ChangeAt
set_option linter.unusedVariables false
set_option linter.unusedSimpArgs false
section
variable {H : Type} {enc : TypeId × Value → H} {P : Program} {w : World} {base : Nat} {spare : Nat → Bool} {held : Bool}
theorem nums_openC {k : IntKind} {r : Reach} {b0 : Nat} {t e : TypeId} {v : Value} {d : DataW H} {p : List MemPlace}
    (ht : P.underlying t = some (.slice e)) (he : P.underlying e = some (.int k)) (hc : P.cellsOf e = 1) (hv : Value.okWide P w r b0 t v) (h : DataW.Trod enc P w base spare held t v d p) :
    ∃ (a : Option Addr) (l c : Nat) (zs : List Int), v = .slice a l c ∧ zs.length = l ∧ RdC w.heap a (zs.map (Value.int k)) ∧ l ≤ c := by
  obtain ⟨a, l, c, rfl⟩ := okWide_slice ht hv
  obtain ⟨fuel, hf⟩ := h
  rcases open_ints ht he hc hf with ⟨hcs, _⟩ | ⟨a', len, cap, zs, hcs, _, hl, hm, hz, _, hcell, hwf⟩
  · simp [Value.cells] at hcs
    obtain ⟨rfl, rfl, rfl⟩ := hcs
    exact ⟨none, 0, 0, [], rfl, rfl, rfl, Nat.le_refl _⟩
  · simp [Value.cells] at hcs
    obtain ⟨rfl, rfl, rfl⟩ := hcs
    have hzl : l ≤ zs.length := by
      rw [hz]
      split <;> omega
    refine ⟨some a', l, c, zs.take l, rfl, by rw [List.length_take]; omega, ?_, hl⟩
    intro j v hv
    rw [List.getElem?_map, List.getElem?_take] at hv
    split at hv
    · rename_i hj
      have h2 := hcell j (by omega)
      rw [List.getElem?_eq_getElem (by omega)] at hv
      simp only [Option.map_some, Option.some.injEq] at hv
      rw [cell_world, List.getD_eq_getElem?_getD, List.getElem?_eq_getElem (by omega)] at h2
      rw [h2, ← hv]
      rfl
    · cases hv
end
end Go.Proofs.YtibdiikcigokjaaGreat
