/- MetaNil. -/
import Derived.Test.YticjjdhaikbdaaaGreatMnMtJ
namespace Go.Proofs.YticjjdhaikbdaaaGreat
open Go Go.RowKit Go.MapKept
set_option linter.unusedVariables false
set_option linter.unusedSimpArgs false
section
variable {F : List HProp} {h : Heap} {dir : ByteArray}
theorem F28_nil (H : sat F h) : CallsH Tryz.prog 28 [.pointer none, .string dir] h fun v h' => v = .tuple #[.pointer none, .int .i64 1] ∧ sat F h' := by
  apply F28_ok
  unfold F28
  refine Al_sat H fun b0 h1 H1 => ?_
  refine Al_sat H1 fun b1 h2 H2 => ?_
  refine Al_sat H2 fun b2 h3 H3 => ?_
  refine Al_sat H3 fun b3 h4 H4 => ?_
  refine ⟨.pointer none, by rw [cellAt_of (H4.mv 3).get]; rfl, none, rfl, ?_⟩
  refine VSt (H4.mv 2).get ?_
  refine (n42 H4).mono ?_
  rintro v h5 ⟨rfl, H5⟩
  refine ⟨none, 0, 0, 1, rfl, ?_⟩
  rw [show ((1 : Int) != 0) = true from rfl, cond_true]
  refine StCC (H5.mv 1) (by exact Nat.zero_lt_one) rfl fun h6 H6 => ?_
  refine StCC (H6.mv 1) (by exact Nat.zero_lt_one) rfl fun h7 H7 => ?_
  refine ⟨.pointer none, by rw [cellAt_of (H7.mv 1).get]; rfl, none, rfl, ?_⟩
  refine VIn H7.get ?_
  exact ⟨rfl, H7.rest 4⟩
set_option maxHeartbeats 1000000 in
theorem MetaNil_law (id : Int) (dir : ByteArray) (h : Heap) : CallsH Tryz.prog 6 [.int .i64 id, .string dir] h (Good h) := by
  apply F6_ok
  unfold F6
  refine (F27_spec (sat_old h)).mono ?_
  rintro v h1 ⟨rfl, H1⟩
  rw [DB_bool, Bool.not_true, cond_false]
  refine (F35_nil H1).mono ?_
  rintro v h2 ⟨rfl, H2⟩
  refine ⟨0, false, rfl, ?_⟩
  refine (F33_nil (id := id) H2).mono ?_
  rintro v h3 ⟨rfl, H3⟩
  refine ⟨none, 0, 0, 1, rfl, ?_⟩
  refine Al_sat H3 fun b0 h4 H4 => ?_
  refine StCC H4 (by exact Nat.zero_lt_one) rfl fun h5 H5 => ?_
  refine (F34_nil H5).mono ?_
  rintro v h6 ⟨cb, eb, rfl, H6⟩
  refine ⟨_, rfl, ?_⟩
  refine range_all ([] : List (Int × List Nat)) HandA (fun _ => [pt b0 (.cells #[.int .i64 0] 3 (0, 0)), old h]) (fun _ => pur False) _ H6 HandA_len
    (fun yf yp yc G X Out h7 hh r f fx => F99_iter (T := []) (by decide) (fun p hp => by cases hp) yf yp yc G X Out h7 hh r f fx) ?_ ?_ ?_
  · intro K i x args L rec h7 Q hx
    cases hx
  · intro K h7 H7
    refine ⟨rfl, ?_⟩
    refine (F28_nil H7).mono ?_
    rintro v h8 ⟨rfl, H8⟩
    refine ⟨none, 1, rfl, ?_⟩
    rw [Bool.not_false, cond_true, show ((1 : Int) == 1) = true from rfl, cond_true]
    refine VIn (H8.mv 2).get ?_
    rw [show ((0 : Int) == 0) = true from rfl, cond_true]
    refine (F30_nil H8).mono ?_
    rintro v h9 ⟨rfl, H9⟩
    rw [DI_int, show ((0 : Int) == 0) = true from rfl, cond_true]
    refine (F29_nil (id := id) H9).mono ?_
    rintro v h10 ⟨rfl, H10⟩
    rw [DI_int, show ((1 : Int) == 1) = true from rfl, cond_true]
    refine (F31_nil (id := id) H10).mono ?_
    rintro v h11 ⟨rfl, H11⟩
    rw [DI_int, show ((1 : Int) == 1) = true from rfl, cond_true]
    refine (F36_nil (id := id) H11).mono ?_
    rintro v h12 ⟨rfl, H12⟩
    rw [DI_int, show ((1 : Int) == 1) = true from rfl, cond_true, show (none : Option Addr).isNone = true from rfl, cond_true]
    refine ⟨H12.get, ?_⟩
    exact good_of ((H12.set (.deferred none)).mv 3)
  · intro K j h7 H7
    exact ((sat_pur.1 (H7.mv 2)).1).elim
end
end Go.Proofs.YticjjdhaikbdaaaGreat
