/- Parts chosen and ordered by their places. -/
import Derived.Test.YticjjdhaikbdaaaFw16
namespace Go.Proofs.Yticjjdhaikbdaaa
open Go Go.RowKit
set_option linter.unusedVariables false
set_option linter.unusedSimpArgs false

def selL : List Nat → List HProp → List HProp
  | [], _ => []
  | k :: ks, l => match mvL k l with
    | [] => []
    | A :: r => A :: selL ks r
theorem star_sel : ∀ (ks : List Nat) (l : List HProp) (r : PHeap), star l r → ∃ r', (∀ b x, r' b = some x → r b = some x) ∧ star (selL ks l) r'
  | [], l, r, _ => ⟨fun _ => none, fun b x h => by simp at h, fun _ => rfl⟩
  | k :: ks, l, r, h => by
    have h2 := star_mv k l r h
    unfold selL
    cases he : mvL k l with
    | nil => exact ⟨fun _ => none, fun b x h => by simp at h, fun _ => rfl⟩
    | cons A t =>
      rw [he] at h2
      obtain ⟨r1, r2, hd, rfl, h1, h3⟩ := h2
      obtain ⟨r2', hs, h4⟩ := star_sel ks t r2 h3
      refine ⟨union r1 r2', fun b x hx => ?_, r1, r2', fun b x y hx hy => hd b x y hx (hs b y hy), rfl, h1, h4⟩
      unfold union at hx ⊢
      cases hr : r1 b with
      | some z => rw [hr] at hx; exact hx
      | none => rw [hr] at hx; exact hs b x hx
def relIx : Nat → List Nat → List Nat
  | 0, _ => []
  | _, [] => []
  | f + 1, k :: ks => k :: relIx f (ks.map fun j => bif Nat.blt k j then j - 1 else j)
theorem sat.ord (ks : List Nat) {l : List HProp} {h : Heap} (H : sat l h) : sat (selL (relIx ks.length ks) l) h := by
  obtain ⟨r, hr, hs⟩ := H
  obtain ⟨r', h1, h2⟩ := star_sel (relIx ks.length ks) l r hr
  exact ⟨r', h2, fun b x hx => hs b x (h1 b x hx)⟩
/-- The same of the first n parts; what stands behind them stays. -/
theorem sat.ordT (n : Nat) (ks : List Nat) {l : List HProp} {h : Heap} (H : sat l h) : sat (selL (relIx ks.length ks) (l.take n) ++ l.drop n) h := by
  obtain ⟨r, hr, hs⟩ := H
  rw [← List.take_append_drop n l] at hr
  obtain ⟨r1, r2, hd, rfl, ha, hb⟩ := star_append.1 hr
  obtain ⟨r', h1, h2⟩ := star_sel (relIx ks.length ks) (l.take n) r1 ha
  refine ⟨union r' r2, star_append.2 ⟨r', r2, fun b x y hx hy => hd b x y (h1 b x hx) hy, rfl, h2, hb⟩, fun b x hx => hs b x ?_⟩
  unfold union at hx ⊢
  cases hr' : r' b with
  | some z => rw [hr'] at hx; rw [h1 b z hr']; exact hx
  | none =>
    rw [hr'] at hx
    cases hr1 : r1 b with
    | none => exact hx
    | some z =>
      have := (hd b z x hr1 hx).1
      simp only [this]
theorem sat.rest (n : Nat) {l : List HProp} {h : Heap} (H : sat l h) : sat (l.drop n) h := by
  obtain ⟨r, hr, hs⟩ := H
  rw [← List.take_append_drop n l] at hr
  obtain ⟨r1, r2, hd, rfl, _, hb⟩ := star_append.1 hr
  exact ⟨r2, hb, fun b x hx => hs b x (union_right hd hx)⟩
theorem get_modify {α : Type} (g : α → α) (l : List α) (i j : Nat) : (l.modify i g)[j]? = (l[j]?).map fun a => if i = j then g a else a := by
  rw [List.getElem?_modify]
  cases l[j]? with
  | none => rfl
  | some a => by_cases h : i = j <;> simp [h]
theorem set_self {α : Type} {l : List α} {i : Nat} {x : α} (h : l[i]? = some x) : l.set i x = l := by
  apply List.ext_getElem?
  intro j
  rw [List.getElem?_set]
  have hl := (List.getElem?_eq_some_iff.1 h).1
  by_cases hij : i = j
  · subst hij
    rw [if_pos rfl, if_pos hl, h]
  · rw [if_neg hij]
/-- One part of a list of two lists, its left side changed. -/
theorem zipWith_setL {α β γ : Type} (E : α → β → γ) : ∀ (xs : List α) (ys : List β) (i : Nat) (x : α) (y : β), ys[i]? = some y → i < xs.length → (List.zipWith E xs ys).set i (E x y) = List.zipWith E (xs.set i x) ys
  | [], ys, i, x, y, h, hl => by simp at hl
  | a :: xs, [], i, x, y, h, hl => by simp at h
  | a :: xs, b :: ys, 0, x, y, h, hl => by simp at h; subst h; simp
  | a :: xs, b :: ys, i + 1, x, y, h, hl => by
    have := zipWith_setL E xs ys i x y (by simpa using h) (by simpa using hl)
    simp [this]
theorem unfocusL {α β : Type} {E : α → β → HProp} {xs : List α} {ys : List β} {F : List HProp} {h : Heap} {i : Nat} {x : α} {y : β} (hy : ys[i]? = some y) (hi : i < xs.length) (H : sat (E x y :: ((List.zipWith E xs ys).eraseIdx i ++ F)) h) :
    sat (List.zipWith E (xs.set i x) ys ++ F) h := by
  have hl : i < (List.zipWith E xs ys).length := by
    have := (List.getElem?_eq_some_iff.1 hy).1
    rw [List.length_zipWith]
    omega
  have := H.unfocus hl
  rwa [zipWith_setL E xs ys i x y hy hi] at this
/-- Of the parts of two lists, all but one. -/
def butP {α β : Type} (E : α → β → HProp) (xs : List α) (ys : List β) (i : Nat) : HProp := Many ((List.zipWith E xs ys).eraseIdx i)
theorem many_out {α β : Type} {E : α → β → HProp} {xs : List α} {ys : List β} {F : List HProp} {h : Heap} {i : Nat} {x : α} {y : β} (H : sat (Many (List.zipWith E xs ys) :: F) h) (hx : xs[i]? = some x) (hy : ys[i]? = some y) :
    sat (E x y :: butP E xs ys i :: F) h := by
  have H2 := focus2 H.open hx hy
  have H3 : sat ((E x y :: (List.zipWith E xs ys).eraseIdx i) ++ F) h := H2
  have H4 := H3.shut
  obtain ⟨r, hr, hs⟩ := H2
  exact ⟨r, sep_mono (fun _ h => h) (fun _ h => star_append.1 h) hr, hs⟩
theorem many_in {α β : Type} {E : α → β → HProp} {xs : List α} {ys : List β} {F : List HProp} {h : Heap} {i : Nat} {x : α} {y : β} (hy : ys[i]? = some y) (hi : i < xs.length) (H : sat (E x y :: butP E xs ys i :: F) h) :
    sat (Many (List.zipWith E (xs.set i x) ys) :: F) h := by
  have H2 : sat (E x y :: ((List.zipWith E xs ys).eraseIdx i ++ F)) h := by
    obtain ⟨r, hr, hs⟩ := H
    exact ⟨r, sep_mono (fun _ h => h) (fun _ h => star_append.2 h) hr, hs⟩
  exact (unfocusL hy hi H2).shut
theorem many_back {α β : Type} {E : α → β → HProp} {xs : List α} {ys : List β} {F : List HProp} {h : Heap} {i : Nat} {x : α} {y : β} (hx : xs[i]? = some x) (hy : ys[i]? = some y) (H : sat (E x y :: butP E xs ys i :: F) h) :
    sat (Many (List.zipWith E xs ys) :: F) h := by
  have := many_in hy (List.getElem?_eq_some_iff.1 hx).1 H
  rwa [set_self hx] at this
theorem many_new {α β : Type} {E : α → β → HProp} {xs : List α} {ys : List β} {F : List HProp} {h : Heap} {x : α} {y : β} (hl : xs.length = ys.length) (H : sat (Many (List.zipWith E xs ys) :: E x y :: F) h) :
    sat (Many (List.zipWith E (xs ++ [x]) (ys ++ [y])) :: F) h := by
  refine sat.shut ?_
  rw [List.zipWith_append hl, List.append_assoc]
  exact H.open
theorem sat.consMany {A : HProp} {L F : List HProp} {h : Heap} (H : sat (A :: Many L :: F) h) : sat (Many (A :: L) :: F) h := let ⟨r, hr, hs⟩ := H; ⟨r, sep_assoc' hr, hs⟩
/-- A cell of its own block. -/
theorem LdV {h : Heap} {b : Nat} {c : Array Value} {e : TypeId} {fr : Nat × Nat} {v : Value} {K : Value → Prop} (hb : h[b]? = some (.cells c e fr)) (hv : c[0]? = some v) (hK : K v) : Ld h ⟨b, 0, none⟩ K :=
  ⟨v, by rw [cellAt_of hb]; exact hv, hK⟩
theorem stV {h : Heap} {F : List HProp} {b : Nat} {u v : Value} {e : TypeId} {K : Heap → Prop} (H : sat (pt b (.cells #[u] e (0, 0)) :: F) h) (hK : ∀ h', sat (pt b (.cells #[v] e (0, 0)) :: F) h' → K h') : StC h ⟨b, 0, none⟩ v K :=
  StC_sat H Nat.zero_lt_one (nofz_zero 1 0 (by decide)) hK

end Go.Proofs.Yticjjdhaikbdaaa
