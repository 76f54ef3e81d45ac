/- The law SourceNil (seat D). -/
import Derived.Test.YticjjdhaikbdaaaGreatDoorSnDl7
namespace Go.Proofs.YticjjdhaikbdaaaGreatDoor
open Go Go.RowKit
set_option linter.unusedVariables false
set_option linter.unusedSimpArgs false
set_option maxRecDepth 8000

section
variable {h : Heap}
theorem s37 {part : Int} : CallsH Tryz.prog 37 [.pointer none, .int .i64 part] h fun v h' => v = .tuple #[.pointer none, .int .i64 1] ∧ h' = h := by
  apply F37_ok
  unfold F37
  rw [show (none : Option Addr).isNone = true from rfl, cond_true]
  exact ⟨rfl, by trivial⟩
theorem s14 {part : Int} {a : Option Addr} {l c : Nat} : CallsH Tryz.prog 14 [.pointer none, .int .i64 part, .slice a l c] h fun v h' => v = .tuple #[.int .i64 0, .int .i64 1] ∧ h' = h := by
  apply F14_ok
  unfold F14
  refine s37.mono ?_
  rintro v h1 ⟨rfl, rfl⟩
  refine ⟨none, 1, rfl, ?_⟩
  rw [show ((1 : Int) != 0) = true from rfl, cond_true]
  exact ⟨rfl, by trivial⟩
theorem s15 {part : Int} : CallsH Tryz.prog 15 [.pointer none, .int .i64 part] h fun v h' => v = .int .i64 1 ∧ h' = h := by
  apply F15_ok
  unfold F15
  refine s37.mono ?_
  rintro v h1 ⟨rfl, rfl⟩
  refine ⟨none, 1, rfl, ?_⟩
  rw [show ((1 : Int) != 0) = true from rfl, cond_true]
  exact ⟨rfl, by trivial⟩
theorem s17 {most : Int} {a : Option Addr} {l c : Nat} : CallsH Tryz.prog 17 [.pointer none, .slice a l c, .int .i64 most] h fun v h' => v = .tuple #[.slice none 0 0, .int .i64 1] ∧ h' = h := by
  apply F17_ok
  unfold F17
  rw [show (none : Option Addr).isNone = true from rfl, cond_true]
  exact ⟨rfl, by trivial⟩
theorem s19 {a : Option Addr} {l c : Nat} : CallsH Tryz.prog 19 [.pointer none, .slice a l c] h fun v h' => v = .tuple #[.slice none 0 0, .int .i64 1] ∧ h' = h := by
  apply F19_ok
  unfold F19
  rw [show (none : Option Addr).isNone = true from rfl, cond_true]
  exact ⟨rfl, by trivial⟩
theorem s20 : CallsH Tryz.prog 20 [.pointer none] h fun v h' => v = .int .i64 0 ∧ h' = h := by
  apply F20_ok
  unfold F20
  rw [show (none : Option Addr).isNone = true from rfl, cond_true]
  exact ⟨rfl, by trivial⟩
theorem s21 : CallsH Tryz.prog 21 [.pointer none] h fun v h' => v = .slice none 0 0 ∧ h' = h := by
  apply F21_ok
  unfold F21
  rw [show (none : Option Addr).isNone = true from rfl, cond_true]
  exact ⟨rfl, by trivial⟩
theorem s13 {parts : Int} {F : List HProp} (H : sat F h) : CallsH Tryz.prog 13 [.pointer none, .int .i64 parts, .int .i64 100] h fun v h' => v = .tuple #[.pointer none, .int .i64 (if parts < 1 ∨ 4 < parts then 110 else 1)] ∧ sat F h' := by
  apply F13_ok
  unfold F13
  by_cases h1 : parts < 1
  · rw [decide_eq_true h1, cond_true, if_pos (.inl h1)]
    exact ⟨rfl, H⟩
  rw [decide_eq_false h1, cond_false]
  by_cases h4 : parts > 4
  · rw [decide_eq_true h4, cond_true, if_pos (.inr h4)]
    exact ⟨rfl, H⟩
  rw [decide_eq_false h4, cond_false, if_neg (fun h => h.elim h1 (fun h => h4 h))]
  refine Al_sat H fun s h2 H2 => ?_
  refine ⟨fun st hh => st = 0 ∧ sat (pt s (.cells #[.pointer none, .pointer none, .pointer none, .pointer none, .int .i64 parts] 93 (0, 0)) :: F) hh, fun st _ => 0, ⟨rfl, H2⟩, ?_⟩
  rintro st h3 ⟨rfl, H3⟩
  rw [decide_eq_true (show (0 : Int) < parts by omega), cond_true]
  refine (F36_spec (i := 0) (by decide)).mono ?_
  rintro v h4 ⟨rfl, rfl⟩
  rw [DS_string, dig0]
  refine ⟨by rw [show (⟨(Lib.decDigits 0).toArray⟩ : ByteArray) = ⟨#[48]⟩ from by rw [Lib.decDigits]; rfl]; decide, ?_⟩
  refine (n49 H3).mono ?_
  rintro v h5 ⟨rfl, H5⟩
  refine ⟨none, _, rfl, ?_⟩
  rw [if_neg (show ¬ ((100 : Int) < 1 ∨ (16777216 : Int) < 100) by omega), show ((1 : Int) != 0) = true from rfl, cond_true]
  exact ⟨rfl, H5.drop⟩
end
theorem SourceNil_law {part most parts : Int} {a : Option Addr} {l c : Nat} (h : Heap) : CallsH Tryz.prog 6 [.int .i64 part, .int .i64 most, .slice a l c, .int .i64 parts] h (Good h) := by
  apply F6_ok
  unfold F6
  refine (F8_spec (sat_old h)).mono ?_
  rintro v h0 ⟨rfl, H0⟩
  rw [DB_bool, Bool.not_true, cond_false]
  refine s14.mono ?_
  rintro v h1 ⟨rfl, rfl⟩
  refine ⟨0, 1, rfl, ?_⟩
  refine s17.mono ?_
  rintro v h1 ⟨rfl, rfl⟩
  refine ⟨none, 0, 0, 1, rfl, ?_⟩
  refine s19.mono ?_
  rintro v h1 ⟨rfl, rfl⟩
  refine ⟨none, 0, 0, 1, rfl, ?_⟩
  refine (s13 H0).mono ?_
  rintro v h2 ⟨rfl, H2⟩
  refine ⟨none, _, rfl, ?_⟩
  have tail : ∀ (w e : Int), e = w → (bif ((1 : Int) == 1) then (bif ((1 : Int) == 1) then (bif ((1 : Int) == 1) then
      CallsH Tryz.prog 15 [.pointer none, .int .i64 part] h2 fun r5 h_5 => DI .i64 r5 fun x9 => (bif (x9 : Int) == 1 then
        CallsH Tryz.prog 20 [.pointer none] h_5 fun r6 h_6 => DI .i64 r6 fun x10 => (bif (x10 : Int) == 0 then
          CallsH Tryz.prog 21 [.pointer none] h_6 fun r7 h_7 => DSl r7 fun x11a x11l x11c => (bif ((x11l : Int) : Int) == 0 then
            (bif (none : Option Addr).isNone then Good h (.bool ((e : Int) == w)) h_7 else Good h (.bool false) h_7)
          else Good h (.bool false) h_7)
        else Good h (.bool false) h_6)
      else Good h (.bool false) h_5) else Good h (.bool false) h2) else Good h (.bool false) h2) else Good h (.bool false) h2) := by
    rintro w e rfl
    rw [show ((1 : Int) == 1) = true from rfl, cond_true, cond_true, cond_true]
    refine s15.mono ?_
    rintro v h3 ⟨rfl, rfl⟩
    rw [DI_int, show ((1 : Int) == 1) = true from rfl, cond_true]
    refine s20.mono ?_
    rintro v h3 ⟨rfl, rfl⟩
    rw [DI_int, show ((0 : Int) == 0) = true from rfl, cond_true]
    refine s21.mono ?_
    rintro v h3 ⟨rfl, rfl⟩
    rw [DSl_slice, show (((0 : Nat) : Int) == 0) = true from rfl, cond_true, show (none : Option Addr).isNone = true from rfl, cond_true, show (e == e) = true from by simp]
    exact good_of H2
  by_cases h1 : parts < 1
  · rw [decide_eq_true h1, cond_true]
    exact tail 110 _ (by rw [if_pos (.inl h1)])
  rw [decide_eq_false h1, cond_false]
  by_cases h4 : parts > 4
  · rw [decide_eq_true h4, cond_true]
    exact tail 110 _ (by rw [if_pos (.inr h4)])
  rw [decide_eq_false h4, cond_false]
  exact tail 1 _ (by rw [if_neg (fun h => h.elim h1 (fun h => h4 h))])

end Go.Proofs.YticjjdhaikbdaaaGreatDoor
