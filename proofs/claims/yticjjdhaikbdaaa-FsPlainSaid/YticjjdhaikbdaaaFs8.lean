/- Names, and the closures that a pending operation is. -/
import Derived.Test.YticjjdhaikbdaaaFs7
namespace Go.Proofs.Yticjjdhaikbdaaa
open Go Go.RowKit Go.MapKept
set_option linter.unusedVariables false
set_option linter.unusedSimpArgs false

def goodC (n : Nat) : Bool := (decide (97 ≤ n) && decide (n ≤ 122)) || (decide (48 ≤ n) && decide (n ≤ 57)) || decide (n = 46)
theorem right_eq (s : ByteArray) : AF.right s = (decide (1 ≤ s.size) && decide (s.size ≤ 32) && (sb s).all goodC) := by
  unfold AF.right sb nb
  rw [List.all_map]
  rfl
theorem F133_spec {s : ByteArray} {h : Heap} (hs : s.size < 4611686018427387904) : CallsH Try.prog 133 [.string s] h fun v h' => v = .bool (AF.right s) ∧ h' = h := by
  apply F133_ok
  unfold F133
  have hsl := sb_length s
  refine ⟨fun st h1 => h1 = h ∧ ∃ i : Nat, st = (i : Int) ∧ i ≤ s.size ∧ ((sb s).take i).all goodC = true, fun st _ => ((s.size : Int) - st).toNat, ⟨rfl, 0, rfl, Nat.zero_le _, by simp⟩, ?_⟩
  rintro st h1 ⟨rfl, i, rfl, hi, hg⟩
  by_cases hlt : i < s.size
  · rw [decide_eq_true (show ((i : Int) < (s.size : Int)) by omega), cond_true]
    refine ⟨by omega, by omega, ?_⟩
    obtain ⟨x, hx⟩ : ∃ x, (sb s)[i]? = some x := ⟨_, List.getElem?_eq_getElem (by omega)⟩
    rw [bt_sb hx]
    have bad : goodC x = false → AF.right s = false := fun hb => by
      rw [right_eq, Bool.and_eq_false_iff]
      right
      rw [List.all_eq_false]
      exact ⟨x, List.mem_of_getElem? hx, by rw [hb]; simp⟩
    have on : goodC x = true → (h1 = h1 ∧ ∃ j : Nat, IntKind.wrap .i64 ((i : Int) + 1) = (j : Int) ∧ j ≤ s.size ∧ ((sb s).take j).all goodC = true) ∧ ((s.size : Int) - IntKind.wrap .i64 ((i : Int) + 1)).toNat < ((s.size : Int) - (i : Int)).toNat := fun hb => by
      rw [wrap64_succ (by omega)]
      refine ⟨⟨rfl, i + 1, rfl, by omega, ?_⟩, by omega⟩
      rw [List.take_add_one, hx, List.all_append, hg]
      simp [hb]
    by_cases h97 : x < 97
    · rw [decide_eq_true (show ((x : Int) < 97) by omega), cond_true]
      by_cases h48 : x < 48
      · rw [decide_eq_true (show ((x : Int) < 48) by omega), cond_true]
        by_cases h46 : x = 46
        · subst h46
          exact on rfl
        · rw [show (((x : Int)) != 46) = true by rw [bne_iff_ne]; omega, cond_true, bad (by simp [goodC]; omega)]
          exact ⟨rfl, rfl⟩
      · rw [decide_eq_false (show ¬ ((x : Int) < 48) by omega), cond_false]
        by_cases h57 : x > 57
        · rw [decide_eq_true (show ((x : Int) > 57) by omega), cond_true, show (((x : Int)) != 46) = true by rw [bne_iff_ne]; omega, cond_true, bad (by simp [goodC]; omega)]
          exact ⟨rfl, rfl⟩
        · rw [decide_eq_false (show ¬ ((x : Int) > 57) by omega), cond_false]
          exact on (by simp [goodC]; omega)
    · rw [decide_eq_false (show ¬ ((x : Int) < 97) by omega), cond_false]
      by_cases h122 : x > 122
      · rw [decide_eq_true (show ((x : Int) > 122) by omega), cond_true, decide_eq_false (show ¬ ((x : Int) < 48) by omega), cond_false,
          decide_eq_true (show ((x : Int) > 57) by omega), cond_true, show (((x : Int)) != 46) = true by rw [bne_iff_ne]; omega, cond_true, bad (by simp [goodC]; omega)]
        exact ⟨rfl, rfl⟩
      · rw [decide_eq_false (show ¬ ((x : Int) > 122) by omega), cond_false]
        exact on (by simp [goodC]; omega)
  · have e : i = s.size := by omega
    subst e
    rw [decide_eq_false (by omega), cond_false]
    rw [List.take_of_length_le (by omega)] at hg
    rw [right_eq, hg, Bool.and_true, strEq_eq, sb_empty]
    by_cases h0 : s.size = 0
    · have : sb s = [] := List.eq_nil_of_length_eq_zero (by omega)
      rw [decide_eq_true this, h0]
      exact ⟨rfl, rfl⟩
    · have : ¬ sb s = [] := fun e => h0 (by rw [← hsl, e]; rfl)
      rw [decide_eq_false this, Bool.not_false, cond_true, decide_eq_true (show 1 ≤ s.size by omega), Bool.true_and]
      refine ⟨congrArg Value.bool ?_, rfl⟩
      by_cases h32 : s.size ≤ 32
      · rw [decide_eq_true h32, decide_eq_true (show ((s.size : Int) ≤ 32) by omega)]
      · rw [decide_eq_false h32, decide_eq_false (show ¬ ((s.size : Int) ≤ 32) by omega)]

end Go.Proofs.Yticjjdhaikbdaaa
