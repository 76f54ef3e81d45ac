/- Sorting changes by their keys: the library's contract as a contract over heaps (seat T). -/
import Derived.Test.YtibdiikcigokjaaGreatSkTb5
import Derived.Test.YtibdiikcigokjaaGreatSkSortF
import Derived.Test.YtibdiikcigokjaaGreatSkSrt
namespace Go.Proofs.YtibdiikcigokjaaGreat.TS
open Go Go.RowKit Go.Sort Go.Lib
open Tb (T get set del Up Has)
open AF (ltB strLt_irrefl strLt_trans strLt_total)
set_option linter.unusedVariables false
set_option linter.unusedSimpArgs false

abbrev cfC (x y : Ch) : Int := Lib.compareBytes x.1.data.toList y.1.data.toList
set_option maxHeartbeats 1000000 in
theorem closure40 (x y : Ch) (W : World) : Calls Tryz.prog 57 #[.agg #[.string x.1, ve x.2.1, .bool x.2.2], .agg #[.string y.1, ve y.2.1, .bool y.2.2]] W fun e w' => e = .returned (.int .i64 (cfC x y)) ∧ ∃ q os', w' = grow (W.drewN q) os' := by
  have hcon := fun W' => Tryz.strings_Compare x.1 y.1 W'
  show Calls Tryz.prog 57 #[.agg #[.string x.1, ve x.2.1, .bool x.2.2], .agg #[.string y.1, ve y.2.1, .bool y.2.2]] W fun e w' => e = .returned (.int .i64 (Lib.compareBytes x.1.data.toList y.1.data.toList)) ∧ ∃ q os', w' = grow (W.drewN q) os'
  generalize Lib.compareBytes x.1.data.toList y.1.data.toList = r at hcon ⊢
  go_enter Tryz.func57, Tryz.ntmps57
  go_wp2_with (go_at_call 58; refine (hcon _).mono ?_; rintro e w' ⟨rfl, rfl⟩)
  go_ret
  exact ⟨rfl, 0, _, by rw [alloc_eq_grow, alloc_eq_grow, grow_grow]; rfl⟩
theorem cmpLays40 (blk off size : Nat) (w : World) : CmpLays Tryz.prog 57 #[] chC 3 cfC blk off size w := fun _ _ _ _ x y => closure40 x y _
theorem compare_lt : ∀ (a b : List UInt8), (Lib.compareBytes a b < 0) ↔ a < b
  | [], [] => by simp [Lib.compareBytes]
  | [], _ :: _ => by simp [Lib.compareBytes]
  | _ :: _, [] => by simp [Lib.compareBytes]
  | a :: s, b :: t => by
    unfold Lib.compareBytes
    rw [List.cons_lt_cons_iff]
    by_cases h1 : a < b
    · simp [h1]
    · by_cases h2 : b < a
      · have : ¬ a = b := fun e => by subst e; exact h1 h2
        simp [h1, h2, this]
      · have : a = b := by
          rw [← UInt8.toNat_inj]
          rw [UInt8.lt_iff_toNat_lt] at h1 h2
          omega
        simp [this, compare_lt s t]
theorem cf_lt (x y : Ch) : ltOf cfC x y = ltB x.1 y.1 := by
  unfold ltOf ltB
  exact decide_eq_decide.2 (compare_lt _ _)
theorem swoC : SWO (ltOf cfC) where
  irrefl x := by
    rw [cf_lt]
    cases h : ltB x.1 x.1 with
    | false => rfl
    | true => exact (strLt_irrefl _ h).elim
  trans x y z h1 h2 := by
    rw [cf_lt] at *
    exact strLt_trans h1 h2
  ntrans x y z h1 h2 := by
    rw [cf_lt] at *
    cases h : ltB x.1 z.1 with
    | false => rfl
    | true =>
      exfalso
      by_cases e : x.1 = y.1
      · rw [e, h2] at h; cases h
      · have h3 := strLt_total e (by rw [h1]; simp)
        rw [strLt_trans h3 h] at h2
        cases h2

theorem F56_spec {h : Heap} {F : List HProp} {a : Option Addr} {n c : Nat} {xs : List Ch} (H : sat (ownS 103 3 a n c (xs.flatMap chC) :: F) h) (hn : xs.length = n) (hsz : n < 4611686018427387904) :
    CallsH Tryz.prog 56 [.slice a n c, .func (.func 57) #[] #[]] h fun v h' => v = .tuple #[] ∧ ∃ ys : List Ch, ys.Perm xs ∧ (ys.Pairwise fun x y => ltB y.1 x.1 = false) ∧ sat (ownS 103 3 a n c (ys.flatMap chC) :: F) h' := by
  have eg : ∀ args w, (callFunc 57 args).run Tryz.prog w = .ok (.enter 57 args) w := enters_of Tryz.func57 (by kernel_rfl) rfl
  refine CallsH.mono (sortK (g := 57) Tryz.sortF56 (fun w => by kernel_rfl) (fun w => by kernel_rfl) (enc := chC) (fun _ => rfl) (fun x v hv => ?_) swoC eg (fun _ _ _ _ => cmpLays40 _ _ _ _) (by kernel_rfl) H hn hsz) ?_
  · simp only [List.mem_cons, List.not_mem_nil, or_false] at hv
    rcases hv with rfl | rfl | rfl <;> rfl
  · rintro v h' ⟨rfl, ys, hp, hs, H2⟩
    refine ⟨rfl, ys, hp, hs.imp fun {x y} h => ?_, H2⟩
    rwa [cf_lt] at h

end Go.Proofs.YtibdiikcigokjaaGreat.TS
