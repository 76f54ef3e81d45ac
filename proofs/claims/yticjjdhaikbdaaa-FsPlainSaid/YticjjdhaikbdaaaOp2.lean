/- Slices of acts that came in; how heavy they are. -/
import Derived.Test.YticjjdhaikbdaaaOp1
namespace Go.Proofs.Yticjjdhaikbdaaa
open Go Go.RowKit Go.ChangeShapes Go.WideShapes Go.ChangeAt
set_option linter.unusedVariables false
set_option linter.unusedSimpArgs false

/-- Acts that can be read from address a on. -/
def ActsIn (h : Heap) (a : Option Addr) (acts : List ActV) : Prop :=
  ∀ (i : Nat) (x : ActV), acts[i]? = some x → ActOk h x ∧ ∃ b, a = some b ∧ ∀ (j : Nat) (v : Value), x.cells[j]? = some v → cellAt h (b.add (i * 7 + j)) = some v
theorem choose_list {α : Type} {P : Nat → α → Prop} : ∀ (n : Nat), (∀ i, i < n → ∃ x, P i x) → ∃ xs : List α, xs.length = n ∧ ∀ (i : Nat) (x : α), xs[i]? = some x → P i x
  | 0, _ => ⟨[], rfl, fun i x h => by simp at h⟩
  | n + 1, h => by
    obtain ⟨xs, hl, hx⟩ := choose_list n fun i hi => h i (by omega)
    obtain ⟨y, hy⟩ := h n (by omega)
    refine ⟨xs ++ [y], by simp [hl], fun i x hi => ?_⟩
    rw [List.getElem?_append] at hi
    split at hi
    · exact hx i x hi
    · rename_i hlt
      have : i = n := by
        have := (List.getElem?_eq_some_iff.1 hi).1
        simp at this
        omega
      subst this
      simp [hl] at hi
      rw [← hi]
      exact hy
theorem actTy_cells {P : Program} {t : TypeId} (h : actTy P t = true) : P.cellsOf t = 7 := by
  unfold actTy at h
  split at h
  · simp only [Bool.and_eq_true, beq_iff_eq] at h
    exact h.1.2
  · cases h
theorem acts_open {H : Type} {enc : TypeId × Value → H} {P : Program} {w : World} {base : Nat} {spare : Nat → Bool} {held : Bool} {r : Reach} {b0 : Nat} {t e : TypeId} {v : Value} {d : DataW H} {p : List MemPlace}
    (ht : P.underlying t = some (.slice e)) (hA : actTy P e = true) (hv : Value.okWide P w r b0 t v) (h : DataW.Trod enc P w base spare held t v d p) :
    ∃ (a : Option Addr) (l c : Nat) (acts : List ActV), v = .slice a l c ∧ acts.length = l ∧ l ≤ c ∧ c ≤ maxLen ∧ ActsIn w.heap a acts := by
  obtain ⟨a, l, c, rfl⟩ := okWide_slice ht hv
  obtain ⟨fuel, hf⟩ := h
  rcases Go.Deep.open_slice ht hf with ⟨hcs, _⟩ | ⟨a', len, cap, m, n, D, Pl, hcs, hb, hl, hm, hmm, _, hel⟩
  · simp [Value.cells] at hcs
    obtain ⟨rfl, rfl, rfl⟩ := hcs
    exact ⟨none, 0, 0, [], rfl, rfl, Nat.le_refl _, Nat.zero_le _, fun i x hx => by simp at hx⟩
  · simp [Value.cells] at hcs
    obtain ⟨rfl, rfl, rfl⟩ := hcs
    have hC := actTy_cells hA
    rw [hC] at hel
    have hlm : l ≤ m := by
      rw [hmm]
      split <;> omega
    obtain ⟨acts, hal, hac⟩ := choose_list (P := fun i (x : ActV) => ActOk w.heap x ∧ ∀ (j : Nat) (v : Value), x.cells[j]? = some v → cellAt w.heap (a'.add (i * 7 + j)) = some v) l fun i hi => by
      obtain ⟨cs', hc1, hc2⟩ := hel i (by omega)
      obtain ⟨x, hx, hok⟩ := act_read hA hc2
      refine ⟨x, hok, fun j v hj => ?_⟩
      obtain ⟨_, _, hcell⟩ := World.cells?_some hc1
      have hj7 : j < 7 := by
        have := (List.getElem?_eq_some_iff.1 hj).1
        simpa [ActV.cells] using this
      have := hcell j hj7
      rw [hx, hj, cell_world, addr_add_add] at this
      exact this
    refine ⟨some a', l, c, acts, rfl, hal, hl, hm, fun i x hi => ?_⟩
    obtain ⟨h1, h2⟩ := hac i x hi
    exact ⟨h1, a', rfl, h2⟩
theorem ActsIn.at {h : Heap} {a : Option Addr} {acts : List ActV} {l i : Nat} {x : ActV} {K : Addr → Prop} (H : ActsIn h a acts) (hl : acts.length = l) (hi : acts[i]? = some x)
    (hK : ∀ b, a = some b → (∀ (j : Nat) (v : Value), x.cells[j]? = some v → cellAt h ((b.add (i * 7)).add j) = some v) → K (b.add (i * 7))) : IdxA a l (i : Int) 7 K := by
  obtain ⟨_, b, hb, hc⟩ := H i x hi
  have := (List.getElem?_eq_some_iff.1 hi).1
  refine ⟨b, hb, by omega, by omega, ?_⟩
  rw [Int.toNat_natCast]
  exact hK b hb fun j v hj => by rw [addr_add_add]; exact hc j v hj
theorem ActsIn.old {h h' : Heap} {F : List HProp} {a : Option Addr} {acts : List ActV} (H : ActsIn h a acts) (hs : sat (old h :: F) h') : ActsIn h' a acts := by
  intro i x hi
  obtain ⟨h1, b, hb, hc⟩ := H i x hi
  obtain ⟨ps, hr, h2, h3⟩ := h1.picks
  exact ⟨⟨h1.k, h1.n, h1.turn, h1.dir, h1.name, h1.b, ps, hr.old hs, h2, h3⟩, b, hb, fun j v hj => hs.oldCell (hc j v hj)⟩
/-- What is not heavy. -/
structure Light (x : ActV) : Prop where
  b : x.b.size ≤ 20000
  dir : x.dir.size ≤ 100
  name : x.name.size ≤ 100
  picks : x.pl ≤ 20000
theorem F26_spec {h : Heap} {a : Option Addr} {l c : Nat} {acts : List ActV} (H : ActsIn h a acts) (hl : acts.length = l) (hm : l ≤ maxLen) :
    CallsH Try.prog 26 [.slice a l c] h fun v h' => h' = h ∧ ∃ z, v = .bool z ∧ (z = false → l ≤ 20000 ∧ ∀ x ∈ acts, Light x) := by
  apply F26_ok
  unfold F26
  refine ⟨fun st hh => hh = h ∧ ∃ (n i : Nat), st = ((n : Int), (i : Int)) ∧ i ≤ l ∧ i ≤ n ∧ n ≤ 20000 ∧ ∀ (j : Nat) (x : ActV), j < i → acts[j]? = some x → Light x, fun st _ => ((l : Int) - st.2).toNat, ⟨rfl, 0, 0, rfl, Nat.zero_le _, Nat.zero_le _, Nat.zero_le _, fun j x hj => by omega⟩, ?_⟩
  rintro st h1 ⟨rfl, n, i, rfl, hi, hin, hn, hlight⟩
  by_cases hlt : i < l
  · rw [decide_eq_true (show ((i : Int) < (l : Int)) by omega), cond_true]
    obtain ⟨x, hx⟩ : ∃ x, acts[i]? = some x := ⟨_, List.getElem?_eq_getElem (by omega)⟩
    have ok := (H i x hx).1
    obtain ⟨ps, _, _, hpl, hpm⟩ := ok.picks
    refine H.at hl hx fun b hb hc => ⟨_, hc 3 _ rfl, ?_⟩
    show DS (.string x.b) _
    rw [DS_string]
    refine H.at hl hx fun b hb hc => ⟨_, hc 6 _ rfl, ?_⟩
    show DSl (.slice x.pa x.pl x.pc) _
    rw [DSl_slice]
    have m1 : (if (20000 : Int) < (x.b.size : Int) then 20000 else (x.b.size : Int)) = ((min x.b.size 20000 : Nat) : Int) := by split <;> omega
    have m2 : (if (20000 : Int) < (x.pl : Int) then 20000 else (x.pl : Int)) = ((min x.pl 20000 : Nat) : Int) := by split <;> omega
    have m3 : IntKind.wrap .i64 (IntKind.wrap .i64 (IntKind.wrap .i64 ((n : Int) + 1) + ((min x.b.size 20000 : Nat) : Int)) + ((min x.pl 20000 : Nat) : Int)) = ((n + 1 + min x.b.size 20000 + min x.pl 20000 : Nat) : Int) := by
      rw [wrap64_succ (by omega), ← Int.natCast_add, wrap64_nat (by omega), ← Int.natCast_add, wrap64_nat (by omega)]
    simp only [m1, m2, m3]
    by_cases hbig : n + 1 + min x.b.size 20000 + min x.pl 20000 > 20000
    · rw [decide_eq_true (by omega), cond_true]
      exact ⟨by trivial, true, rfl, fun e => by cases e⟩
    rw [decide_eq_false (by omega), cond_false]
    refine H.at hl hx fun b hb hc => ⟨_, hc 1 _ rfl, ?_⟩
    show DS (.string x.dir) _
    rw [DS_string]
    by_cases hd : x.dir.size > 100
    · rw [decide_eq_true (by omega), cond_true]
      exact ⟨by trivial, true, rfl, fun e => by cases e⟩
    rw [decide_eq_false (by omega), cond_false]
    refine H.at hl hx fun b hb hc => ⟨_, hc 2 _ rfl, ?_⟩
    show DS (.string x.name) _
    rw [DS_string]
    by_cases hnm : x.name.size > 100
    · rw [decide_eq_true (by omega), cond_true]
      exact ⟨by trivial, true, rfl, fun e => by cases e⟩
    rw [decide_eq_false (by omega), cond_false]
    refine ⟨⟨by trivial, n + 1 + min x.b.size 20000 + min x.pl 20000, i + 1, ?_, by omega, by omega, by omega, fun j y hj hy => ?_⟩, ?_⟩
    · rw [wrap64_succ (by have : maxLen = 9223372036854775807 := by decide
                          omega)]
    · by_cases hji : j = i
      · subst hji
        rw [hx] at hy
        cases hy
        exact ⟨by omega, by omega, by omega, by omega⟩
      · exact hlight j y (by omega) hy
    · have hml : maxLen = 9223372036854775807 := by decide
      show ((l : Int) - IntKind.wrap .i64 ((i : Int) + 1)).toNat < ((l : Int) - (i : Int)).toNat
      rw [wrap64_succ (by omega)]
      omega
  · rw [decide_eq_false (by omega), cond_false]
    have ei : i = l := by omega
    refine ⟨by trivial, false, rfl, fun _ => ⟨by omega, fun x hx => ?_⟩⟩
    obtain ⟨j, hj⟩ := List.getElem?_of_mem hx
    exact hlight j x (by have := (List.getElem?_eq_some_iff.1 hj).1; omega) hj

end Go.Proofs.Yticjjdhaikbdaaa
