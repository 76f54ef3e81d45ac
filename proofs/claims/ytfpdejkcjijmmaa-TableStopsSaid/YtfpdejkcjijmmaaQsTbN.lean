/- The law TablePlays (seat T). -/
import Derived.Test.YtfpdejkcjijmmaaQsTbM
namespace Go.Proofs.Ytfpdejkcjijmmaa.TS
open Go Go.RowKit
open Tb (T get set del Up Has)
open AF (ltB strLt_irrefl strLt_trans strLt_total)
set_option linter.unusedVariables false
set_option linter.unusedSimpArgs false

/-- Marks that are left at the end. -/
def marks : List Nat → HProp
  | [] => Many []
  | d :: ds => Many [markD d, marks ds]
theorem marks_nil {F : List HProp} {h : Heap} (H : sat F h) : sat (marks [] :: F) h := sat.shut (m := []) H
theorem marks_cons {d : Nat} {ds : List Nat} {F : List HProp} {h : Heap} (H : sat (markD d :: marks ds :: F) h) : sat (marks (d :: ds) :: F) h := sat.shut (m := [markD d, marks ds]) H
theorem marks_leave {K : Heap → Prop} : ∀ {ds : List Nat} {F : List HProp} {h : Heap}, sat (marks ds :: F) h → (∀ h', sat F h' → K h') → leaveH ds h K
  | [], F, h, H, hK => hK h (sat.open (m := []) H)
  | d :: ds, F, h, H, hK => by
    have H1 : sat (markD d :: marks ds :: F) h := sat.open (m := [markD d, marks ds]) H
    exact ⟨H1.get, marks_leave (H1.set (.deferred none)).drop hK⟩
/-- A number in a cell of its own. -/
def rdI (h : Heap) (b : Nat) : Int := match cellAt h ⟨b, 0, none⟩ with
  | some (.int _ x) => x
  | _ => 0
theorem rdI_of {b : Nat} {k : IntKind} {x : Int} {e : TypeId} {fr : Nat × Nat} {F : List HProp} {h : Heap} (H : sat (pt b (.cells #[.int k x] e fr) :: F) h) : rdI h b = x := by
  unfold rdI
  rw [cellAt_of H.get]
  rfl
end Go.Proofs.Ytfpdejkcjijmmaa.TS
