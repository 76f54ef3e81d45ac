/- One part among many: taken out, changed, put back. -/
import Derived.Test.YticjjdhaikbdaaaFw15
namespace Go.Proofs.Yticjjdhaikbdaaa
open Go Go.RowKit
set_option linter.unusedVariables false
set_option linter.unusedSimpArgs false

theorem mvL_focus : ∀ (i : Nat) (L F : List HProp) (A : HProp), L[i]? = some A → mvL i (L ++ F) = A :: (L.eraseIdx i ++ F)
  | 0, [], F, A, h => by simp at h
  | 0, a :: L, F, A, h => by simp at h; subst h; rfl
  | i + 1, [], F, A, h => by simp at h
  | i + 1, a :: L, F, A, h => by
    have := mvL_focus i L F A (by simpa using h)
    simp [mvL, this]
theorem bkL_focus : ∀ (i : Nat) (L F : List HProp) (A : HProp), i < L.length → bkL i (A :: (L.eraseIdx i ++ F)) = L.set i A ++ F
  | 0, [], F, A, h => by simp at h
  | 0, a :: L, F, A, h => rfl
  | i + 1, [], F, A, h => by simp at h
  | i + 1, a :: L, F, A, h => by
    have := bkL_focus i L F A (by simpa using h)
    simp only [List.eraseIdx_cons_succ, List.cons_append, bkL, List.set_cons_succ, this]
theorem sat.focus {L F : List HProp} {h : Heap} {i : Nat} {A : HProp} (H : sat (L ++ F) h) (hA : L[i]? = some A) : sat (A :: (L.eraseIdx i ++ F)) h := by
  have := H.mv i
  rwa [mvL_focus i L F A hA] at this
theorem sat.unfocus {L F : List HProp} {h : Heap} {i : Nat} {A : HProp} (hi : i < L.length) (H : sat (A :: (L.eraseIdx i ++ F)) h) : sat (L.set i A ++ F) h := by
  have := H.bk i
  rwa [bkL_focus i L F A hi] at this
/-- Parts of two lists, one part each. -/
theorem focus2 {α β : Type} {E : α → β → HProp} {xs : List α} {ys : List β} {F : List HProp} {h : Heap} {i : Nat} {x : α} {y : β} (H : sat (List.zipWith E xs ys ++ F) h) (hx : xs[i]? = some x) (hy : ys[i]? = some y) :
    sat (E x y :: ((List.zipWith E xs ys).eraseIdx i ++ F)) h :=
  H.focus (by rw [List.getElem?_zipWith, hx, hy])
theorem zipWith_set {α β γ : Type} (E : α → β → γ) : ∀ (xs : List α) (ys : List β) (i : Nat) (x : α) (y : β), xs[i]? = some x → i < ys.length → (List.zipWith E xs ys).set i (E x y) = List.zipWith E xs (ys.set i y)
  | [], ys, i, x, y, h, _ => by simp at h
  | a :: xs, [], i, x, y, h, hl => by simp at hl
  | a :: xs, b :: ys, 0, x, y, h, hl => by simp at h; subst h; simp
  | a :: xs, b :: ys, i + 1, x, y, h, hl => by
    have := zipWith_set E xs ys i x y (by simpa using h) (by simpa using hl)
    simp [this]
theorem unfocus2 {α β : Type} {E : α → β → HProp} {xs : List α} {ys : List β} {F : List HProp} {h : Heap} {i : Nat} {x : α} {y : β} (hx : xs[i]? = some x) (hi : i < ys.length) (H : sat (E x y :: ((List.zipWith E xs ys).eraseIdx i ++ F)) h) :
    sat (List.zipWith E xs (ys.set i y) ++ F) h := by
  have hl : i < (List.zipWith E xs ys).length := by
    have := (List.getElem?_eq_some_iff.1 hx).1
    rw [List.length_zipWith]
    omega
  have := H.unfocus hl
  rwa [zipWith_set E xs ys i x y hx hi] at this

end Go.Proofs.Yticjjdhaikbdaaa
