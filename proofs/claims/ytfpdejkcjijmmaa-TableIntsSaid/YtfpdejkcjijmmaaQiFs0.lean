/- Sorting texts: the library's contract as a contract over heaps. -/
import Derived.Test.YtfpdejkcjijmmaaQiFwB
import Derived.Test.YtfpdejkcjijmmaaQiLib
import Derived.Test.YtfpdejkcjijmmaaQiTt
namespace Go.Proofs.Ytfpdejkcjijmmaa
open Go Go.RowKit Go.Sort
set_option linter.unusedVariables false
set_option linter.unusedSimpArgs false

def sortB (ss : List ByteArray) : List ByteArray := ((ss.map fun s => s.data.toList).mergeSort fun x y => decide (x ≤ y)).map fun l => ⟨l.toArray⟩
theorem F66_spec {h : Heap} {F : List HProp} {b c : Nat} {ss : List ByteArray} (H : sat (ownS 9 1 (some ⟨b, 0, none⟩) ss.length c (ss.map Value.string) :: F) h) (hsz : ss.length < 4611686018427387904) :
    CallsH Try.prog 66 [.slice (some ⟨b, 0, none⟩) ss.length c] h fun v h' => v = .tuple #[] ∧ sat (ownS 9 1 (some ⟨b, 0, none⟩) ss.length c ((sortB ss).map Value.string) :: F) h' := by
  refine ⟨by kernel_rfl, fun w hw => ?_⟩
  subst hw
  obtain ⟨hl, ⟨h1, _⟩ | ⟨b', cells, fr, h1, hlc, hcm, hcs, hfr, ht, H2⟩⟩ := ownS_cases H
  · cases h1
  · simp only [Option.some.injEq, Addr.mk.injEq, and_true] at h1
    subst h1
    have hb := H2.get
    have hlt := (Array.getElem?_eq_some_iff.1 hb).1
    have hH : Go.Sort.Holds encStr w b 0 (ss.map fun s => s.data.toList).toArray := by
      intro j hj
      simp only [List.size_toArray, List.length_map] at hj
      have hcj : cells[j]? = some (.string ss[j]) := by
        have h2 : (cells.toList.take (ss.length * 1))[j]? = (ss.map Value.string)[j]? := by rw [ht]
        rw [List.getElem?_take, if_pos (by omega), List.getElem?_map, List.getElem?_eq_getElem hj] at h2
        simpa using h2
      refine ⟨?_, ?_⟩
      · rw [cell_world, cellAt_of hb, Nat.zero_add, hcj]
        simp [hj]
      · rw [frozen_world, frozenAt, hb]
        have hjs : j < cells.size := by
          rw [Array.getElem?_eq_some_iff] at hcj
          exact hcj.1
        have := hfr j hjs
        obtain ⟨lo, hi⟩ := fr
        simp only at this ⊢
        simp
        omega
    have := Try.slices_Sort_string b 0 c (ss.map fun s => s.data.toList) w hH hlt (by simpa using hsz)
    rw [List.length_map] at this
    refine callsIn_wide.2 (this.mono ?_)
    rintro e w' ⟨rfl, n, os, rfl⟩
    refine ⟨_, rfl, ⟨rfl, ?_⟩, ⟨rfl, rfl, rfl⟩⟩
    generalize hD : ((ss.map fun s => s.data.toList).mergeSort fun x y => decide (x ≤ y)) = D
    have hDl : D.length = ss.length := by rw [← hD, List.length_mergeSort, List.length_map]
    have hS : sortB ss = D.map fun l => ⟨l.toArray⟩ := by rw [← hD]; rfl
    have hup : sat (pt b (.cells (putCells encStr 0 D.toArray cells) 9 fr) :: F) (grow (putRow encStr (Sort.ahead w n) b 0 D.toArray) os).heap := by
      refine H2.upd _ ?_ ?_
      · show ((w.heap.modify b (onCells (putCells encStr 0 D.toArray))) ++ os)[b]? = _
        rw [Array.getElem?_append_left (by simpa using hlt), Array.getElem?_modify]
        simp [hb, onCells]
      · intro k hk hks
        show ((w.heap.modify b (onCells (putCells encStr 0 D.toArray))) ++ os)[k]? = _
        rw [Array.getElem?_append_left (by simpa using hks), Array.getElem?_modify]
        simp [Ne.symm hk]
    have hcsz : (putCells encStr 0 D.toArray cells).size = cells.size := by simp [putCells]
    refine ownS_mk hup (by rw [hcsz]; exact hfr) hlc hcm (by rw [hcsz]; exact hcs) ?_
    apply List.ext_getElem?
    intro j
    rw [List.getElem?_take, hS, List.getElem?_map, List.getElem?_map]
    by_cases hj : j < ss.length
    · rw [if_pos (by omega), List.getElem?_eq_getElem (by omega : j < D.length)]
      have hjc : j < cells.size := by omega
      simp [putCells, hjc, hDl, hj]
    · rw [if_neg (by omega), List.getElem?_eq_none (by omega : D.length ≤ j)]
      rfl
theorem sortB_perm {a b : List ByteArray} (h : a.Perm b) : sortB a = sortB b := by
  unfold sortB
  congr 1
  have hp := h.map fun s : ByteArray => s.data.toList
  have tr : ∀ x y z : List UInt8, decide (x ≤ y) = true → decide (y ≤ z) = true → decide (x ≤ z) = true := fun x y z h1 h2 => by
    simp only [decide_eq_true_eq] at h1 h2 ⊢
    exact List.le_trans h1 h2
  have to : ∀ x y : List UInt8, (decide (x ≤ y) || decide (y ≤ x)) = true := fun x y => by
    simp only [Bool.or_eq_true, decide_eq_true_eq]
    exact List.le_total x y
  refine List.Perm.eq_of_pairwise (le := fun x y => decide (x ≤ y) = true) ?_ (List.pairwise_mergeSort tr to _) (List.pairwise_mergeSort tr to _) (((List.mergeSort_perm _ _).trans hp).trans (List.mergeSort_perm _ _).symm)
  intro x y _ _ h1 h2
  simp only [decide_eq_true_eq] at h1 h2
  exact List.le_antisymm h1 h2
end Go.Proofs.Ytfpdejkcjijmmaa
