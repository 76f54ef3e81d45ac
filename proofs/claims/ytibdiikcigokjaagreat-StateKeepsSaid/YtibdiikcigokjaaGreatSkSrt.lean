/- Sorting rows of structs by the library: a contract over heaps (seat T). -/
import Derived.Shelf.SlSortCmp.WholeK
import Derived.Shelf.SlSortCmp.NoneTotal
import Derived.Test.YtibdiikcigokjaaGreatSkFsA
namespace Go.Proofs.YtibdiikcigokjaaGreat
open Go Go.RowKit Go.Sort Go.Shelf
set_option linter.unusedVariables false
set_option linter.unusedSimpArgs false
variable {α : Type} [Inhabited α]

theorem flatK_get {f : α → List Value} {sz : Nat} (hk : ∀ x, (f x).length = sz) : ∀ (xs : List α) (t : Nat), t < xs.length * sz → (xs.flatMap f)[t]! = (f xs[t / sz]!)[t % sz]!
  | [], t, h => by simp at h
  | x :: xs, t, h => by
    have h0 : 0 < sz := by rcases Nat.eq_zero_or_pos sz with h1 | h1; · subst h1; simp at h
                           · exact h1
    rw [List.flatMap_cons]
    by_cases hlt : t < sz
    · rw [Nat.div_eq_of_lt hlt, Nat.mod_eq_of_lt hlt]
      simp [List.getElem?_append_left (show t < (f x).length by rw [hk]; exact hlt)]
    · obtain ⟨u, rfl⟩ : ∃ u, t = sz + u := ⟨t - sz, by omega⟩
      have ih := flatK_get hk xs u (by rw [List.length_cons, Nat.add_mul, Nat.one_mul] at h; omega)
      rw [Nat.add_div_left u h0, Nat.add_mod_left]
      simp only [List.getElem!_eq_getElem?_getD] at ih ⊢
      rw [List.getElem?_append_right (by rw [hk]; omega), hk, Nat.add_sub_cancel_left, ih]
      simp
theorem flatK_list {f : α → List Value} {sz : Nat} (hk : ∀ x, (f x).length = sz) (xs : List α) : (flatK f sz xs.toArray).toList = xs.flatMap f := by
  have hl : (xs.flatMap f).length = xs.length * sz := by
    induction xs with
    | nil => simp
    | cons x xs ih => rw [List.flatMap_cons, List.length_append, hk, ih, List.length_cons, Nat.add_mul, Nat.one_mul]; omega
  apply List.ext_getElem
  · rw [Array.length_toList, size_flatK, hl, List.size_toArray]
  · intro t h1 h2
    have h3 : t < xs.length * sz := by rw [← hl]; exact h2
    have e1 := flatK_get hk xs t h3
    have e2 := get_flatK f sz xs.toArray t (by simpa using h3)
    rw [getElem!_pos (xs.flatMap f) t h2] at e1
    rw [getElem!_pos (flatK f sz xs.toArray) t (by rw [size_flatK]; simpa using h3)] at e2
    rw [Array.getElem_toList, e2, e1]
    simp

theorem sortK {ρ : Ren} {e sz g : Nat} (L : SlLaysF0.n6 Tryz.prog ρ) (aE : ∀ w, (isAgg (ρ.t 24)).run Tryz.prog w = .ok true w) (zE : ∀ w, (Go.sizeOf (ρ.t 24)).run Tryz.prog w = .ok sz w) {enc : α → List Value} (hk : ∀ x, (enc x).length = sz) (h1 : ∀ x, ∀ v ∈ enc x, v.oneCell' = true)
    {cf : α → α → Int} (hO : SWO (ltOf cf)) (eg : ∀ args w, (callFunc g args).run Tryz.prog w = .ok (.enter g args) w) (hcmp : ∀ blk off size w, CmpLays Tryz.prog g #[] enc sz cf blk off size w) (h0 : callable Tryz.prog (ρ.f 6) = true)
    {h : Heap} {F : List HProp} {a : Option Addr} {n c : Nat} {xs : List α} (H : sat (ownS e sz a n c (xs.flatMap enc) :: F) h) (hn : xs.length = n) (hsz : n < 4611686018427387904) :
    CallsH Tryz.prog (ρ.f 6) [.slice a n c, .func (.func g) #[] #[]] h fun v h' => v = .tuple #[] ∧ ∃ ys : List α, ys.Perm xs ∧ ys.Pairwise (fun x y => ltOf cf y x = false) ∧ sat (ownS e sz a n c (ys.flatMap enc) :: F) h' := by
  refine ⟨h0, fun w hw => ?_⟩
  subst hw
  subst hn
  obtain ⟨hl, ⟨rfl, hl0, rfl, hxe, H0⟩ | ⟨b, cells, fr, rfl, hlc, hcm, hcs, hfr, ht, H2⟩⟩ := ownS_cases H
  · have hx : xs = [] := List.eq_nil_of_length_eq_zero hl0
    subst hx
    refine callsIn_wide.2 ((AnyF.slices_SortFunc_none L none 0 _ w).mono ?_)
    rintro e w' ⟨rfl, rfl⟩
    exact ⟨_, rfl, ⟨rfl, [], .nil, .nil, H⟩, ⟨rfl, rfl, rfl⟩⟩
  · have hb := H2.get
    have hlt := (Array.getElem?_eq_some_iff.1 hb).1
    have hfk := flatK_list hk xs
    have hH : HoldsK enc sz w b 0 xs.toArray := by
      intro j hj
      have hj2 : j < xs.length * sz := by simpa using hj
      have hcj : cells[j]? = some (flatK enc sz xs.toArray)[j]! := by
        have h2 : (cells.toList.take (xs.length * sz))[j]? = (flatK enc sz xs.toArray).toList[j]? := by rw [ht, hfk]
        rw [List.getElem?_take, if_pos hj2] at h2
        rw [getElem!_pos (flatK enc sz xs.toArray) j hj]
        simpa [hj2] using h2
      refine ⟨?_, ?_⟩
      · rw [cell_world, cellAt_of hb, Nat.zero_add, hcj]
        simp [hj2]
      · rw [frozen_world, frozenAt, hb]
        have hjs : j < cells.size := by
          rw [Array.getElem?_eq_some_iff] at hcj
          exact hcj.1
        have := hfr j hjs
        obtain ⟨lo, hi⟩ := fr
        simp only at this ⊢
        simp
        omega
    have this := AnyQ.slices_SortFunc L sz aE zE enc hk h1 cf hO g #[] b 0 c xs.toArray w eg (hcmp b 0 _ w) hH hlt (by simp; omega)
    rw [List.size_toArray] at this
    refine callsIn_wide.2 (this.mono ?_)
    rintro e w' ⟨rfl, d', n, os, hperm, hsort, rfl⟩
    obtain ⟨hds, _, hpm⟩ := hperm
    replace hds : d'.size = xs.length := by simpa using hds
    have hpm2 : d'.toList.Perm xs := by
      have e1 : d'.extract 0 xs.length = d' := by rw [← hds]; simp
      have e2 : xs.toArray.extract 0 xs.length = xs.toArray := by simp
      rw [e1, e2] at hpm
      simpa using hpm
    have hfd : (flatK enc sz d').toList = d'.toList.flatMap enc := by
      have := flatK_list hk d'.toList
      simpa using this
    refine ⟨_, rfl, ⟨rfl, d'.toList, hpm2, ?_, ?_⟩, ⟨rfl, rfl, rfl⟩⟩
    · rw [List.pairwise_iff_getElem]
      intro i j hi hj hij
      have := hsort i j (Nat.zero_le _) hij (by simpa [hds] using hj)
      rw [getElem!_pos d' i (by simpa using hi), getElem!_pos d' j (by simpa using hj)] at this
      simpa using this
    · generalize hD : flatK enc sz d' = D
      have hDl : D.size = xs.length * sz := by rw [← hD, size_flatK, hds]
      have hup : sat (pt b (.cells (putCells id 0 D cells) e fr) :: F) (sortWorldK enc sz w b 0 n d' os).heap := by
        refine H2.upd _ ?_ ?_
        · show ((w.heap.modify b (onCells (putCells id 0 (flatK enc sz d')))) ++ os)[b]? = _
          rw [Array.getElem?_append_left (by simpa using hlt), Array.getElem?_modify]
          simp [hb, onCells, hD]
        · intro k hk hks
          show ((w.heap.modify b (onCells (putCells id 0 (flatK enc sz d')))) ++ os)[k]? = _
          rw [Array.getElem?_append_left (by simpa using hks), Array.getElem?_modify]
          simp [Ne.symm hk]
      have hcsz : (putCells id 0 D cells).size = cells.size := by simp [putCells]
      refine ownS_mk hup (by rw [hcsz]; exact hfr) hlc hcm (by rw [hcsz]; exact hcs) ?_
      rw [← hfd, hD]
      have hle : xs.length * sz ≤ c * sz := Nat.mul_le_mul_right _ hlc
      apply List.ext_getElem?
      intro j
      rw [List.getElem?_take]
      by_cases hj : j < xs.length * sz
      · rw [if_pos hj]
        have hjc : j < cells.size := by omega
        simp [putCells, hjc, hDl, hj]
      · rw [if_neg hj, List.getElem?_eq_none (by simp; omega)]

end Go.Proofs.YtibdiikcigokjaaGreat
