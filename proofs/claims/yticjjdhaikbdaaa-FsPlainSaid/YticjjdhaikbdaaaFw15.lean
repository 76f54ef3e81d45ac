/- Every entry of a map once, in whatever order. -/
import Derived.Test.YticjjdhaikbdaaaFw14
namespace Go.Proofs.Yticjjdhaikbdaaa
open Go Go.RowKit Go.MapKept
set_option linter.unusedVariables false
set_option linter.unusedSimpArgs false

theorem filter_out {l : List MapEntry} {p : MapEntry → Bool} {e : MapEntry} (hn : (l.map (·.born)).Nodup) (he : e ∈ l) (hp : p e = true) :
    (e :: l.filter fun x => p x && !decide (x.born = e.born)).Perm (l.filter p) := by
  induction l with
  | nil => cases he
  | cons x l ih =>
    simp only [List.map_cons, List.nodup_cons] at hn
    rcases List.mem_cons.1 he with rfl | he
    · have h1 : l.filter (fun x => p x && !decide (x.born = e.born)) = l.filter p := by
        apply List.filter_congr
        intro y hy
        have : y.born ≠ e.born := fun h => hn.1 (by rw [← h]; exact List.mem_map.2 ⟨y, hy, rfl⟩)
        simp [this]
      simp only [List.filter_cons, hp, Bool.true_and, decide_true, Bool.not_true, if_true]
      rw [h1]
      exact .refl _
    · have hne : x.born ≠ e.born := fun h => hn.1 (by rw [h]; exact List.mem_map.2 ⟨e, he, rfl⟩)
      have ih' := ih hn.2 he
      simp only [List.filter_cons, hne, decide_false, Bool.not_false, Bool.and_true]
      cases hpx : p x with
      | true =>
        simp only [if_true]
        exact (List.Perm.swap _ _ _).trans (ih'.cons x)
      | false => simpa using ih'
theorem leftOf_step {es : Array MapEntry} {seen : Array Nat} {e : MapEntry} (hn : (es.toList.map (·.born)).Nodup) (he : e ∈ (leftOf es seen).toList) :
    (e :: (leftOf es (seen.push e.born)).toList).Perm (leftOf es seen).toList := by
  unfold leftOf at he ⊢
  simp only [Array.toList_filter, List.mem_filter] at he ⊢
  have h1 := filter_out (p := fun x => !seen.contains x.born) hn he.1 he.2
  have h2 : es.toList.filter (fun x => !(seen.push e.born).contains x.born) = es.toList.filter (fun x => !seen.contains x.born && !decide (x.born = e.born)) := by
    apply List.filter_congr
    intro y _
    simp [Array.contains_push, eq_comm]
  rw [h2]
  exact h1

/-- A walk over a map that stands: the loop of 'for .. range m', where each round ends it or goes on. -/
structure Walked (es : Array MapEntry) (seen : Array Nat) (done : List MapEntry) : Prop where
  perm : (done ++ (leftOf es seen).toList).Perm es.toList
theorem Walked.start (es : Array MapEntry) : Walked es #[] [] := ⟨by simp only [List.nil_append, leftOf, Array.toList_filter]; rw [List.filter_eq_self.2 (by simp)]⟩
theorem Walked.step {es : Array MapEntry} {seen : Array Nat} {done : List MapEntry} {e : MapEntry} (h : Walked es seen done) (hn : (es.toList.map (·.born)).Nodup) (he : e ∈ (leftOf es seen).toList) : Walked es (seen.push e.born) (done ++ [e]) := by
  refine ⟨?_⟩
  have h1 := leftOf_step hn he
  rw [List.append_assoc]
  exact (List.Perm.append_left done (by simpa using h1)).trans h.perm
theorem Walked.fin {es : Array MapEntry} {seen : Array Nat} {done : List MapEntry} (h : Walked es seen done) (h0 : (leftOf es seen).size = 0) : done.Perm es.toList := by
  have := h.perm
  rw [Array.eq_empty_of_size_eq_zero h0] at this
  simpa using this
theorem Walked.less {es : Array MapEntry} {seen : Array Nat} {e : MapEntry} (hn : (es.toList.map (·.born)).Nodup) (he : e ∈ (leftOf es seen).toList) : (leftOf es (seen.push e.born)).size < (leftOf es seen).size := by
  have := (leftOf_step hn he).length_eq
  simp only [List.length_cons, Array.length_toList] at this
  omega
theorem Walked.mem {es : Array MapEntry} {seen : Array Nat} {e : MapEntry} (he : e ∈ (leftOf es seen).toList) : e ∈ es.toList := by
  unfold leftOf at he
  simp only [Array.toList_filter, List.mem_filter] at he
  exact he.1
def leftAt (p : Addr) (h : Heap) : Nat :=
  match h[p.block]? with
  | some (.mapIter (some m) _ seen _) => match h[m]? with
    | some (.map es _) => (leftOf es seen).size
    | _ => 0
  | _ => 0

end Go.Proofs.Yticjjdhaikbdaaa
