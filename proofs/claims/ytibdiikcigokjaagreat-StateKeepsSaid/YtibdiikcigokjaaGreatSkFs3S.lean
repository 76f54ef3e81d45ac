/- Maps that are cloned; the sorted keys of the second map type. -/
import Derived.Test.YtibdiikcigokjaaGreatSkFs2S
import Derived.Test.YtibdiikcigokjaaGreatSkCloneS
namespace Go.Proofs.YtibdiikcigokjaaGreat.TS
open Go Go.RowKit Go.MapKept
set_option linter.unusedVariables false
set_option linter.unusedSimpArgs false

theorem F158_spec {κ : Type} [DecidableEq κ] {E : Keys κ} {b : Nat} {m : List (κ × Value)} {h : Heap} {F : List HProp} (H : sat (ownM E b m :: F) h) :
    CallsH Tryz.prog 158 [.map (some b)] h fun v h' => ∃ b', v = .map (some b') ∧ sat (ownM E b' m :: ownM E b m :: F) h' := by
  obtain ⟨es, clock, hm, H2⟩ := ownM_open H
  refine ⟨by kernel_rfl, fun w hw => callsIn_wide.2 ?_⟩
  subst hw
  refine (Tryz.maps_Clone158 b es clock w H2.get).mono ?_
  rintro e w' ⟨rfl, rfl⟩
  have H3 := H2.push (.map es clock)
  exact ⟨_, rfl, ⟨w.heap.size, rfl, ownM_shut hm ((ownM_shut hm (H3.mv 1)).mv 1)⟩, ⟨rfl, rfl, rfl⟩⟩

end Go.Proofs.YtibdiikcigokjaaGreat.TS
