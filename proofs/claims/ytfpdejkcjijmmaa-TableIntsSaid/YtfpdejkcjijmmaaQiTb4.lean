/- Sorting changes by their keys: the library's contract as a contract over heaps (seat T). -/
import Derived.Test.YtfpdejkcjijmmaaQiTb5
import Derived.Test.YtfpdejkcjijmmaaQiSortF
import Derived.Test.YtfpdejkcjijmmaaQiSrt
namespace Go.Proofs.Ytfpdejkcjijmmaa.TS
open Go Go.RowKit Go.Sort Go.Lib
open Tb (T get set del Up Has)
open AF (ltB strLt_irrefl strLt_trans strLt_total)
set_option linter.unusedVariables false
set_option linter.unusedSimpArgs false

abbrev cfC (x y : Ch) : Int := Lib.compareBytes x.1.data.toList y.1.data.toList
set_option maxHeartbeats 1000000 in
theorem compare_lt : ∀ (a b : List UInt8), (Lib.compareBytes a b < 0) ↔ a < b
  | [], [] => by simp [Lib.compareBytes]
  | [], _ :: _ => by simp [Lib.compareBytes]
  | _ :: _, [] => by simp [Lib.compareBytes]
  | a :: s, b :: t => by
    unfold Lib.compareBytes
    rw [List.cons_lt_cons_iff]
    by_cases h1 : a < b
    · simp [h1]
    · by_cases h2 : b < a
      · have : ¬ a = b := fun e => by subst e; exact h1 h2
        simp [h1, h2, this]
      · have : a = b := by
          rw [← UInt8.toNat_inj]
          rw [UInt8.lt_iff_toNat_lt] at h1 h2
          omega
        simp [this, compare_lt s t]
theorem cf_lt (x y : Ch) : ltOf cfC x y = ltB x.1 y.1 := by
  unfold ltOf ltB
  exact decide_eq_decide.2 (compare_lt _ _)
theorem swoC : SWO (ltOf cfC) where
  irrefl x := by
    rw [cf_lt]
    cases h : ltB x.1 x.1 with
    | false => rfl
    | true => exact (strLt_irrefl _ h).elim
  trans x y z h1 h2 := by
    rw [cf_lt] at *
    exact strLt_trans h1 h2
  ntrans x y z h1 h2 := by
    rw [cf_lt] at *
    cases h : ltB x.1 z.1 with
    | false => rfl
    | true =>
      exfalso
      by_cases e : x.1 = y.1
      · rw [e, h2] at h; cases h
      · have h3 := strLt_total e (by rw [h1]; simp)
        rw [strLt_trans h3 h] at h2
        cases h2

end Go.Proofs.Ytfpdejkcjijmmaa.TS
