/- Ranges over maps: the iterator as a part of its own. -/
import Derived.Test.YticjjdhaikbdaaaFw12
import Derived.Maps.RangeRun
namespace Go.Proofs.Yticjjdhaikbdaaa
open Go Go.RowKit
open Go.ChangeMaps (setBlock)
set_option linter.unusedVariables false
set_option linter.unusedSimpArgs false

theorem range_sat {P : Program} {h : Heap} {F : List HProp} {T k e : TypeId} {m : Nat} {es : Array MapEntry} {clock : Nat} {K : Value → Heap → Prop} (hT : P.underlying T = some (.map k e)) (H : sat F h) (hm : h[m]? = some (.map es clock))
    (hK : ∀ r h', sat (pt r (.mapIter (some m) clock #[] clock) :: F) h' → K (.pointer (some ⟨r, 0, none⟩)) h') : RunH P (Instr.range T (.map (some m))) h K := by
  intro w hw
  subst hw
  exact ⟨_, _, run_range_map w T k e m es clock hT hm, ⟨rfl, rfl, rfl⟩, hK _ _ (H.push _)⟩
theorem range_nil {P : Program} {h : Heap} {F : List HProp} {T k e : TypeId} {K : Value → Heap → Prop} (hT : P.underlying T = some (.map k e)) (H : sat F h)
    (hK : ∀ r h', sat (pt r (.mapIter none 0 #[] 0) :: F) h' → K (.pointer (some ⟨r, 0, none⟩)) h') : RunH P (Instr.range T (.map none)) h K := by
  intro w hw
  subst hw
  exact ⟨_, _, run_range_nilMap w T k e hT, ⟨rfl, rfl, rfl⟩, hK _ _ (H.push _)⟩
theorem next_sat {P : Program} {h : Heap} {F : List HProp} {ty : TypeId} {r m since c0 clock : Nat} {seen : Array Nat} {es : Array MapEntry} {K : Value → Heap → Prop}
    (H : sat (pt r (.mapIter (some m) since seen c0) :: F) h) (hm : h[m]? = some (.map es clock)) (hold : ∀ x ∈ es.toList, x.born < since) (hsc : since ≤ c0)
    (hEnd : (leftOf es seen).size = 0 → K (.tuple #[.bool false]) h)
    (hStep : ∀ e ∈ (leftOf es seen).toList, ∀ h', sat (pt r (.mapIter (some m) since (seen.push e.born) clock) :: F) h' → K (.tuple #[.bool true, e.key, e.val]) h') :
    RunH P (Instr.next (.pointer (some ⟨r, 0, none⟩)) false ty) h K := by
  intro w hw
  subst hw
  rcases run_next_at (P := P) w ty r m since c0 seen es clock H.get hm hold hsc with ⟨h0, hrun⟩ | ⟨e, he, w1, hal, hrun⟩
  · exact ⟨_, _, hrun, .refl w, hEnd h0⟩
  · have hh : w1.heap = w.heap := by rcases hal with rfl | rfl <;> rfl
    have hs : Same w w1 := by rcases hal with rfl | rfl <;> exact ⟨rfl, rfl, rfl⟩
    refine ⟨_, _, hrun, hs.trans ⟨rfl, rfl, rfl⟩, hStep e he _ ?_⟩
    have := H.set (.mapIter (some m) since (seen.push e.born) clock)
    rw [← hh] at this
    exact this
theorem entry_sat {P : Program} {h : Heap} {F : List HProp} {r m since clock : Nat} {seen : Array Nat} {es : Array MapEntry} {e : MapEntry} {K : Value → Heap → Prop}
    (H : sat (pt r (.mapIter (some m) since (seen.push e.born) clock) :: F) h) (hm : h[m]? = some (.map es clock)) (he : e ∈ es.toList) (hn : (es.toList.map (·.born)).Nodup)
    (hK : K (.tuple #[e.key, e.val]) h) : RunH P (Instr.entry (.pointer (some ⟨r, 0, none⟩))) h K := by
  intro w hw
  subst hw
  exact ⟨_, _, run_entry_at w r m since seen es clock e H.get hm he hn, .refl w, hK⟩

end Go.Proofs.Yticjjdhaikbdaaa
