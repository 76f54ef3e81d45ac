/- The chapter's example; MetaOnce. -/
import Derived.Test.YticjjdhaikbdaaaGreatMkMtH
namespace Go.Proofs.YticjjdhaikbdaaaGreat
open Go Go.RowKit Go.MapKept
set_option linter.unusedVariables false
set_option linter.unusedSimpArgs false
open AF (Meta copyT topT nmI Ent IdOk MInv Live Has Upd Dirc)
open Hex (digs)

section
variable {F : List HProp} {h : Heap}
theorem right_dN : AF.right dN = true := by decide
theorem live_F10 {room : Nat} (hr : room ≤ 1073741824) (H : sat F h) : CallsH Tryz.prog 10 [.int .i64 (room : Int)] h fun v h' => ∃ b, v = .tuple #[ptrV b, .int .i64 0] ∧ Live ⟨room, 0, none, false, [], []⟩ ∧ sat (fsP b ⟨room, 0, none, false, [], []⟩ :: F) h' := by
  refine (F10_spec H hr).mono ?_
  rintro v h' ⟨b, rfl, H'⟩
  exact ⟨b, rfl, AF.live_new hr, H'⟩
set_option maxHeartbeats 1000000 in
theorem F27_spec (H : sat F h) : CallsH Tryz.prog 27 [] h fun v h' => v = .bool true ∧ sat F h' := by
  apply F27_ok
  unfold F27
  refine (live_F10 (room := 1000) (by decide) H).mono ?_
  rintro v h1 ⟨fb, rfl, L0, H1⟩
  refine ⟨some ⟨fb, 0, none⟩, 0, rfl, ?_⟩
  rw [show ((0 : Int) != 0) = false from rfl, cond_false, show (some (⟨fb, 0, none⟩ : Addr)).isNone = false from rfl, cond_false]
  refine (live_open (dir := dN) L0 (by decide) right_dN rfl (by decide) H1).mono ?_
  rintro v h2 ⟨b, A1, rfl, u1, I1, H2⟩
  have r1 := u1.room
  have s1 := u1.steps
  have n1 := u1.used
  have z0 : AF.FS.used ⟨1000, 0, none, false, [], []⟩ = 0 := rfl
  simp only [z0] at r1 s1 n1
  refine ⟨some ⟨b, 0, none⟩, 0, rfl, ?_⟩
  rw [show ((0 : Int) != 0) = false from rfl, cond_false, show (some (⟨b, 0, none⟩ : Addr)).isNone = false from rfl, cond_false]
  refine Al_sat H2 fun p0 h3 H3 => ?_
  refine convBytes_sat u40 (by kernel_rfl) H3 fun h4 H4 => ?_
  rw [DSl_slice]
  refine (live_put (id := 0) (bs := [120]) I1 (by omega) (by decide) ⟨by decide, by decide⟩ rfl (by simp only [List.length_singleton]; omega) (by decide) (fun h' hh => RdCf hh rfl) (fun n hn => by simp at hn; omega) rfl (by decide) (H4.ordT 3 [1, 2, 0])).mono ?_
  rintro v h5 ⟨A2, T2, rfl, I2, u2, H5⟩
  have r2 := u2.room
  have s2 := u2.steps
  have n2 := u2.used
  rw [DI_int, show ((0 : Int) != 0) = false from rfl, cond_false]
  refine Al_sat H5 fun p1 h6 H6 => ?_
  refine convBytes_sat u40 (by kernel_rfl) H6 fun h7 H7 => ?_
  rw [DSl_slice]
  refine (live_put (id := 1) (bs := [121]) I2 (by omega) (by decide) ⟨by decide, by decide⟩ rfl (by simp only [List.length_singleton] at n2 ⊢; omega) (by decide) (fun h' hh => RdCf hh rfl) (fun n hn => by simp at hn; omega) rfl (by decide) (H7.ordT 3 [1, 2, 0])).mono ?_
  rintro v h8 ⟨A3, T3, rfl, I3, u3, H8⟩
  have r3 := u3.room
  have s3 := u3.steps
  have n3 := u3.used
  rw [DI_int, show ((0 : Int) != 0) = false from rfl, cond_false]
  have len2 : (setT 1 [121] (setT 0 [120] ([] : Ent))).length = 2 := by decide
  refine (live_fold (upto := 0) (w := 62) I3 (by show A3.steps + (setT 1 [121] (setT 0 [120] ([] : Ent))).length + 0 + 30 < _; rw [len2]; omega) (by decide) (by decide) (by decide) (by simp only [List.length_singleton] at n2 n3 ⊢; omega) (by decide) H8).mono ?_
  rintro v h9 ⟨A4, M4, T4, e, rfl, he, hne, I4, hd4, hE4, _, u4, H9⟩
  have s4 : A4.steps ≤ A3.steps + ((setT 1 [121] (setT 0 [120] ([] : Ent))).length + 8) := u4.steps
  rw [len2] at s4
  have he0 : e = 0 := by
    rcases he with he | he
    · exact he
    · exact absurd (hne he (0, [120]) (by decide)) (by decide)
  subst he0
  rw [DI_int, show (((0 : Nat) : Int) != 0) = false from rfl, cond_false]
  have g0 : M4.get 0 = some [120] := by
    rw [← I4.getE, hE4]
    decide
  have g1 : M4.get 1 = some [121] := by
    rw [← I4.getE, hE4]
    decide
  refine Al_sat H9 fun p2 h10 H10 => ?_
  refine convBytes_sat u40 (by kernel_rfl) H10 fun h11 H11 => ?_
  rw [DSl_slice]
  have hs4 : A4.steps + 10 < 1099511627776 := by omega
  refine (live_again (id := 1) (bs := [122]) I4 hs4 (by rw [hd4]; decide) ⟨by decide, by decide⟩ g1 (fun h' hh => RdCf hh rfl) (fun n hn => by simp at hn; omega) rfl (by decide) (H11.ordT 3 [1, 2, 0])).mono ?_
  rintro v h12 ⟨rfl, H12⟩
  rw [DI_int, if_neg (by decide), show ((90 : Int) != 90) = false from rfl, cond_false]
  refine (live_get I4 g0 H12).mono ?_
  rintro v h13 ⟨ga, gc, rfl, H13⟩
  refine ⟨ga, 1, gc, 0, rfl, ?_⟩
  rw [show ((0 : Int) == 0) = true from rfl, cond_true]
  refine ⟨ofN [120], bytesIn_of (ownS_read H13) rfl (fun n hn => by simp at hn; omega), ?_⟩
  rw [show strEq (ofN [120]) ⟨#[120]⟩ = true from by rw [strEq_eq, sb_ofN (fun n hn => by simp at hn; omega)]; rfl, cond_true]
  refine (F30_spec (H13.mv 1)).mono ?_
  rintro v h14 ⟨rfl, H14⟩
  rw [DI_int, hE4]
  refine ⟨?_, ?_⟩
  · have : (AF.Meta.entries { dir := dN, S := setT 1 [121] (setT 0 [120] []), Fo := [], D := [] }).length = 2 := by decide
    rw [this]
    rfl
  · exact H14.rest 6
end

end Go.Proofs.YticjjdhaikbdaaaGreat
