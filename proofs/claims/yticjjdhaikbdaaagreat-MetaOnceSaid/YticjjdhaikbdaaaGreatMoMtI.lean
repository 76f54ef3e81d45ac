/- The chapter's example; MetaOnce. -/
import Derived.Test.YticjjdhaikbdaaaGreatMoMtH
namespace Go.Proofs.YticjjdhaikbdaaaGreat
open Go Go.RowKit Go.MapKept
set_option linter.unusedVariables false
set_option linter.unusedSimpArgs false
open AF (Meta copyT topT nmI Ent IdOk MInv Live Has Upd Dirc)
open Hex (digs)

def onceT (id0 : Int) (a0 b0 : ByteArray) (x1 x3 : Option Addr) (h_11 : Heap) (Q : Value → Heap → Prop) : Prop :=
  CallsH Tryz.prog 32 [.pointer x1] h_11 fun r12 h_12 =>
                  DI .i64 r12 fun was0 =>
                  (bif !strEq a0 b0 then
                    RunH Tryz.prog (Go.convert 9 40 (.string b0)) h_12 fun r13 h_13 =>
                    DSl r13 fun x14a x14l x14c =>
                    CallsH Tryz.prog 29 [.pointer x3, .int .i64 id0, .slice x14a x14l x14c] h_13 fun r14 h_14 =>
                    DI .i64 r14 fun x15 =>
                    (bif (x15 : Int) != 90 then
                      Q (.bool false) h_14
                    else
                      RunH Tryz.prog (Go.convert 9 40 (.string a0)) h_14 fun r15 h_15 =>
                      DSl r15 fun x16a x16l x16c =>
                      CallsH Tryz.prog 29 [.pointer x3, .int .i64 id0, .slice x16a x16l x16c] h_15 fun r16 h_16 =>
                      DI .i64 r16 fun x17 =>
                      (bif (x17 : Int) != 0 then
                        Q (.bool false) h_16
                      else
                        CallsH Tryz.prog 32 [.pointer x1] h_16 fun r17 h_17 =>
                        DI .i64 r17 fun x18 =>
                        (bif (x18 : Int) != was0 then
                          Q (.bool false) h_17
                        else
                          CallsH Tryz.prog 33 [.pointer x3, .int .i64 id0] h_17 fun r18 h_18 =>
                          ∃ (x19a : Option Addr), ∃ (x19l : Nat), ∃ (x19c : Nat), ∃ (x20 : Int), r18 = .tuple #[.slice x19a x19l x19c, .int .i64 x20] ∧
                          (bif (x20 : Int) == 0 then
                            ∃ bs0 : ByteArray, BytesIn h_18 x19a x19l bs0 ∧
                            Q (.bool (strEq bs0 a0)) h_18
                          else
                            Q (.bool false) h_18))))
                  else
                    RunH Tryz.prog (Go.convert 9 40 (.string b0)) h_12 fun r19 h_19 =>
                    DSl r19 fun x21a x21l x21c =>
                    CallsH Tryz.prog 29 [.pointer x3, .int .i64 id0, .slice x21a x21l x21c] h_19 fun r20 h_20 =>
                    DI .i64 r20 fun x22 =>
                    (bif (x22 : Int) != 0 then
                      Q (.bool false) h_20
                    else
                      RunH Tryz.prog (Go.convert 9 40 (.string a0)) h_20 fun r21 h_21 =>
                      DSl r21 fun x23a x23l x23c =>
                      CallsH Tryz.prog 29 [.pointer x3, .int .i64 id0, .slice x23a x23l x23c] h_21 fun r22 h_22 =>
                      DI .i64 r22 fun x24 =>
                      (bif (x24 : Int) != 0 then
                        Q (.bool false) h_22
                      else
                        CallsH Tryz.prog 32 [.pointer x1] h_22 fun r23 h_23 =>
                        DI .i64 r23 fun x25 =>
                        (bif (x25 : Int) != was0 then
                          Q (.bool false) h_23
                        else
                          CallsH Tryz.prog 33 [.pointer x3, .int .i64 id0] h_23 fun r24 h_24 =>
                          ∃ (x26a : Option Addr), ∃ (x26l : Nat), ∃ (x26c : Nat), ∃ (x27 : Int), r24 = .tuple #[.slice x26a x26l x26c, .int .i64 x27] ∧
                          (bif (x27 : Int) == 0 then
                            ∃ bs1 : ByteArray, BytesIn h_24 x26a x26l bs1 ∧
                            Q (.bool (strEq bs1 a0)) h_24
                          else
                            Q (.bool false) h_24)))))

section
variable {F : List HProp} {h : Heap}
theorem right_dN : AF.right dN = true := by decide
theorem live_F10 {room : Nat} (hr : room ≤ 1073741824) (H : sat F h) : CallsH Tryz.prog 10 [.int .i64 (room : Int)] h fun v h' => ∃ b, v = .tuple #[ptrV b, .int .i64 0] ∧ Live ⟨room, 0, none, false, [], []⟩ ∧ sat (fsP b ⟨room, 0, none, false, [], []⟩ :: F) h' := by
  refine (F10_spec H hr).mono ?_
  rintro v h' ⟨b, rfl, H'⟩
  exact ⟨b, rfl, AF.live_new hr, H'⟩
set_option maxHeartbeats 1000000 in
theorem F27_spec (H : sat F h) : CallsH Tryz.prog 27 [] h fun v h' => v = .bool true ∧ sat F h' := by
  apply F27_ok
  unfold F27
  refine (live_F10 (room := 1000) (by decide) H).mono ?_
  rintro v h1 ⟨fb, rfl, L0, H1⟩
  refine ⟨some ⟨fb, 0, none⟩, 0, rfl, ?_⟩
  rw [show ((0 : Int) != 0) = false from rfl, cond_false, show (some (⟨fb, 0, none⟩ : Addr)).isNone = false from rfl, cond_false]
  refine (live_open (dir := dN) L0 (by decide) right_dN rfl (by decide) H1).mono ?_
  rintro v h2 ⟨b, A1, rfl, u1, I1, H2⟩
  have r1 := u1.room
  have s1 := u1.steps
  have n1 := u1.used
  have z0 : AF.FS.used ⟨1000, 0, none, false, [], []⟩ = 0 := rfl
  simp only [z0] at r1 s1 n1
  refine ⟨some ⟨b, 0, none⟩, 0, rfl, ?_⟩
  rw [show ((0 : Int) != 0) = false from rfl, cond_false, show (some (⟨b, 0, none⟩ : Addr)).isNone = false from rfl, cond_false]
  refine Al_sat H2 fun p0 h3 H3 => ?_
  refine convBytes_sat u40 (by kernel_rfl) H3 fun h4 H4 => ?_
  rw [DSl_slice]
  refine (live_put (id := 0) (bs := [120]) I1 (by omega) (by decide) ⟨by decide, by decide⟩ rfl (by simp only [List.length_singleton]; omega) (by decide) (fun h' hh => RdCf hh rfl) (fun n hn => by simp at hn; omega) rfl (by decide) (H4.ordT 3 [1, 2, 0])).mono ?_
  rintro v h5 ⟨A2, T2, rfl, I2, u2, H5⟩
  have r2 := u2.room
  have s2 := u2.steps
  have n2 := u2.used
  rw [DI_int, show ((0 : Int) != 0) = false from rfl, cond_false]
  refine Al_sat H5 fun p1 h6 H6 => ?_
  refine convBytes_sat u40 (by kernel_rfl) H6 fun h7 H7 => ?_
  rw [DSl_slice]
  refine (live_put (id := 1) (bs := [121]) I2 (by omega) (by decide) ⟨by decide, by decide⟩ rfl (by simp only [List.length_singleton] at n2 ⊢; omega) (by decide) (fun h' hh => RdCf hh rfl) (fun n hn => by simp at hn; omega) rfl (by decide) (H7.ordT 3 [1, 2, 0])).mono ?_
  rintro v h8 ⟨A3, T3, rfl, I3, u3, H8⟩
  have r3 := u3.room
  have s3 := u3.steps
  have n3 := u3.used
  rw [DI_int, show ((0 : Int) != 0) = false from rfl, cond_false]
  have len2 : (setT 1 [121] (setT 0 [120] ([] : Ent))).length = 2 := by decide
  refine (live_fold (upto := 0) (w := 62) I3 (by show A3.steps + (setT 1 [121] (setT 0 [120] ([] : Ent))).length + 0 + 30 < _; rw [len2]; omega) (by decide) (by decide) (by decide) (by simp only [List.length_singleton] at n2 n3 ⊢; omega) (by decide) H8).mono ?_
  rintro v h9 ⟨A4, M4, T4, e, rfl, he, hne, I4, hd4, hE4, _, u4, H9⟩
  have s4 : A4.steps ≤ A3.steps + ((setT 1 [121] (setT 0 [120] ([] : Ent))).length + 8) := u4.steps
  rw [len2] at s4
  have he0 : e = 0 := by
    rcases he with he | he
    · exact he
    · exact absurd (hne he (0, [120]) (by decide)) (by decide)
  subst he0
  rw [DI_int, show (((0 : Nat) : Int) != 0) = false from rfl, cond_false]
  have g0 : M4.get 0 = some [120] := by
    rw [← I4.getE, hE4]
    decide
  have g1 : M4.get 1 = some [121] := by
    rw [← I4.getE, hE4]
    decide
  refine Al_sat H9 fun p2 h10 H10 => ?_
  refine convBytes_sat u40 (by kernel_rfl) H10 fun h11 H11 => ?_
  rw [DSl_slice]
  have hs4 : A4.steps + 10 < 1099511627776 := by omega
  refine (live_again (id := 1) (bs := [122]) I4 hs4 (by rw [hd4]; decide) ⟨by decide, by decide⟩ g1 (fun h' hh => RdCf hh rfl) (fun n hn => by simp at hn; omega) rfl (by decide) (H11.ordT 3 [1, 2, 0])).mono ?_
  rintro v h12 ⟨rfl, H12⟩
  rw [DI_int, if_neg (by decide), show ((90 : Int) != 90) = false from rfl, cond_false]
  refine (live_get I4 g0 H12).mono ?_
  rintro v h13 ⟨ga, gc, rfl, H13⟩
  refine ⟨ga, 1, gc, 0, rfl, ?_⟩
  rw [show ((0 : Int) == 0) = true from rfl, cond_true]
  refine ⟨ofN [120], bytesIn_of (ownS_read H13) rfl (fun n hn => by simp at hn; omega), ?_⟩
  rw [show strEq (ofN [120]) ⟨#[120]⟩ = true from by rw [strEq_eq, sb_ofN (fun n hn => by simp at hn; omega)]; rfl, cond_true]
  refine (F30_spec (H13.mv 1)).mono ?_
  rintro v h14 ⟨rfl, H14⟩
  rw [DI_int, hE4]
  refine ⟨?_, ?_⟩
  · have : (AF.Meta.entries { dir := dN, S := setT 1 [121] (setT 0 [120] []), Fo := [], D := [] }).length = 2 := by decide
    rw [this]
    rfl
  · exact H14.rest 6
set_option maxHeartbeats 1000000 in
theorem onceT_spec {id : Int} {a b : ByteArray} {lb fb : Nat} {M : Meta} {A : AF.FS} {T : Dirc} {h0 : Heap} (I : MInv A M T) (hs : A.steps + 10 < 1099511627776) (hd : M.dir.size < 4611686018427387904) (hid : IdOk id) (hg : M.get id = some (sb a)) (ha : a.size + b.size ≤ 4000)
    (H : sat (logM lb fb M :: fsP fb A :: old h0 :: F) h) : onceT id a b (some ⟨fb, 0, none⟩) (some ⟨lb, 0, none⟩) h (Good h0) := by
  have hza := sb_length a
  have hzb := sb_length b
  unfold onceT
  refine (F32_spec (H.mv 1)).mono ?_
  rintro v h1 ⟨rfl, rfl⟩
  rw [DI_int]
  have third : ∀ (h2 : Heap), sat (logM lb fb M :: fsP fb A :: old h0 :: F) h2 → RunH Tryz.prog (Go.convert 9 40 (.string a)) h2 fun r15 h_15 => DSl r15 fun x16a x16l x16c => CallsH Tryz.prog 29 [ptrV lb, .int .i64 id, .slice x16a x16l x16c] h_15 fun r16 h_16 => DI .i64 r16 fun x17 =>
      (bif (x17 : Int) != 0 then Good h0 (.bool false) h_16 else CallsH Tryz.prog 32 [ptrV fb] h_16 fun r17 h_17 => DI .i64 r17 fun x18 =>
        (bif (x18 : Int) != (A.steps : Int) then Good h0 (.bool false) h_17 else CallsH Tryz.prog 33 [ptrV lb, .int .i64 id] h_17 fun r18 h_18 =>
          ∃ (x19a : Option Addr), ∃ (x19l : Nat), ∃ (x19c : Nat), ∃ (x20 : Int), r18 = .tuple #[.slice x19a x19l x19c, .int .i64 x20] ∧
          (bif (x20 : Int) == 0 then ∃ bs0 : ByteArray, BytesIn h_18 x19a x19l bs0 ∧ Good h0 (.bool (strEq bs0 a)) h_18 else Good h0 (.bool false) h_18))) := by
    intro h2 H2
    refine cText H2 (by unfold maxLen; omega) fun ca cc h3 H3 => ?_
    rw [DSl_slice]
    refine (live_again (id := id) (bs := sb a) I hs hd hid hg (fun h' hh => ownS_read hh) (sb_B8 a) hza (by omega) (H3.ordT 3 [1, 2, 0])).mono ?_
    rintro v h4 ⟨rfl, H4⟩
    rw [DI_int, if_pos rfl, show ((0 : Int) != 0) = false from rfl, cond_false]
    refine (F32_spec (H4.mv 1)).mono ?_
    rintro v h5 ⟨rfl, rfl⟩
    rw [DI_int, show ((A.steps : Int) != (A.steps : Int)) = false from by simp, cond_false]
    refine (live_get I hg H4).mono ?_
    rintro v h6 ⟨ga, gc, rfl, H6⟩
    refine ⟨ga, _, gc, 0, rfl, ?_⟩
    rw [show ((0 : Int) == 0) = true from rfl, cond_true]
    refine ⟨a, ?_, ?_⟩
    · have := bytesIn_of (ownS_read H6) rfl (sb_B8 a)
      rwa [ofN_sb] at this
    · rw [show strEq a a = true from by rw [strEq_eq]; exact decide_eq_true rfl]
      exact good_of (H6.mv 4)
  by_cases hab : a = b
  · subst hab
    rw [show strEq a a = true from by rw [strEq_eq]; exact decide_eq_true rfl, Bool.not_true, cond_false]
    refine cText H (by unfold maxLen; omega) fun ca cc h3 H3 => ?_
    rw [DSl_slice]
    refine (live_again (id := id) (bs := sb a) I hs hd hid hg (fun h' hh => ownS_read hh) (sb_B8 a) hza (by omega) (H3.ordT 3 [1, 2, 0])).mono ?_
    rintro v h4 ⟨rfl, H4⟩
    rw [DI_int, if_pos rfl, show ((0 : Int) != 0) = false from rfl, cond_false]
    exact third h4 (H4.ordT 4 [0, 1, 3])
  · rw [show strEq a b = false from by rw [strEq_dec]; exact decide_eq_false hab, Bool.not_false, cond_true]
    refine cText H (by unfold maxLen; omega) fun ca cc h3 H3 => ?_
    rw [DSl_slice]
    refine (live_again (id := id) (bs := sb b) I hs hd hid hg (fun h' hh => ownS_read hh) (sb_B8 b) hzb (by omega) (H3.ordT 3 [1, 2, 0])).mono ?_
    rintro v h4 ⟨rfl, H4⟩
    rw [DI_int, if_neg (fun e => hab (sb_inj e)), show ((90 : Int) != 90) = false from rfl, cond_false]
    exact third h4 (H4.ordT 4 [0, 1, 3])
set_option maxHeartbeats 1000000 in
theorem MetaOnce_law (id : Int) (a b : ByteArray) (fold : Bool) (ha : a.size ≤ 140737488355328) (hb : b.size ≤ 140737488355328) (h : Heap) : CallsH Tryz.prog 4 [.int .i64 id, .string a, .string b, .bool fold] h (Good h) := by
  apply F4_ok
  unfold F4
  refine (F27_spec (sat_old h)).mono ?_
  rintro v h1 ⟨rfl, H1⟩
  rw [DB_bool, Bool.not_true, cond_false]
  have hw : IntKind.wrap .i64 ((a.size : Int) + (b.size : Int)) = ((a.size + b.size : Nat) : Int) := by rw [IntWalk.i64_in _ (by omega)]; omega
  rw [hw]
  by_cases hbig : 4000 < a.size + b.size
  · rw [decide_eq_true (show (((a.size + b.size : Nat) : Int) > 4000) by omega), cond_true]
    exact good_of H1
  rw [decide_eq_false (show ¬ (((a.size + b.size : Nat) : Int) > 4000) by omega), cond_false]
  refine (live_F10 (room := 1048576) (by decide) H1).mono ?_
  rintro v h2 ⟨fb, rfl, L0, H2⟩
  refine ⟨some ⟨fb, 0, none⟩, 0, rfl, ?_⟩
  refine (live_open (dir := dN) L0 (by decide) right_dN rfl (by decide) H2).mono ?_
  rintro v h3 ⟨lb, A1, rfl, u1, I1, H3⟩
  have r1 := u1.room
  have s1 := u1.steps
  have n1 := u1.used
  have z0 : AF.FS.used ⟨1048576, 0, none, false, [], []⟩ = 0 := rfl
  simp only [z0] at r1 s1 n1
  refine ⟨some ⟨lb, 0, none⟩, 0, rfl, ?_⟩
  rw [show ((0 : Int) != 0) = false from rfl, cond_false]
  have hza := sb_length a
  have wrong : (id < 0 ∨ 1099511627776 < id) → RunH Tryz.prog (Go.convert 9 40 (.string a)) h3 fun r3 h_3 => DSl r3 fun x5a x5l x5c => CallsH Tryz.prog 29 [ptrV lb, .int .i64 id, .slice x5a x5l x5c] h_3 fun r4 h_4 => DI .i64 r4 fun x6 =>
      (bif (x6 : Int) == 2 then CallsH Tryz.prog 30 [ptrV lb] h_4 fun r5 h_5 => DI .i64 r5 fun x7 => Good h (.bool ((x7 : Int) == 0)) h_5 else Good h (.bool false) h_4) := by
    intro hw
    refine cText H3 (by unfold maxLen; omega) fun ca cc h4 H4 => ?_
    rw [DSl_slice]
    refine (F29_spec (id := id) (bs := sb a) I1.live.wf (by omega) (by decide) (fun x hx => by cases hx) (fun h' hh => ownS_read hh) (sb_B8 a) hza (by omega) (H4.ordT 3 [1, 2, 0])).mono ?_
    have e : AF.Meta.put ⟨dN, [], [], []⟩ A1 id (sb a) = (A1, ⟨dN, [], [], []⟩, 2) := by unfold AF.Meta.put; rw [if_pos hw]
    rw [e]
    rintro v h5 ⟨rfl, _, _, H5⟩
    rw [DI_int, show (((2 : Nat) : Int) == 2) = true from rfl, cond_true]
    refine (F30_spec H5).mono ?_
    rintro v h6 ⟨rfl, H6⟩
    rw [DI_int]
    exact good_of (H6.mv 3)
  by_cases hneg : id < 0
  · rw [decide_eq_true hneg, cond_true]
    exact wrong (.inl hneg)
  rw [decide_eq_false hneg, cond_false]
  by_cases hbigid : 1099511627776 < id
  · rw [decide_eq_true (show (id : Int) > 1099511627776 from hbigid), cond_true]
    exact wrong (.inr hbigid)
  rw [decide_eq_false (show ¬ (id : Int) > 1099511627776 from hbigid), cond_false]
  have hid : IdOk id := ⟨by omega, by omega⟩
  refine cText H3 (by unfold maxLen; omega) fun ca cc h4 H4 => ?_
  rw [DSl_slice]
  refine (live_put (id := id) (bs := sb a) I1 (by omega) (by decide) hid rfl (by omega) (by decide) (fun h' hh => ownS_read hh) (sb_B8 a) hza (by omega) (H4.ordT 3 [1, 2, 0])).mono ?_
  rintro v h5 ⟨A2, T2, rfl, I2, u2, H5⟩
  have r2 := u2.room
  have s2 := u2.steps
  have n2 := u2.used
  rw [DI_int, show ((0 : Int) != 0) = false from rfl, cond_false]
  have g2 : AF.Meta.get { dir := dN, S := setT id (sb a) [], Fo := [], D := [] } id = some (sb a) := by
    show getT (setT id (sb a) []) id = some (sb a)
    exact getT_set_self _ _ _
  cases fold with
  | false =>
    rw [cond_false]
    exact onceT_spec I2 (by omega) (show dN.size < 4611686018427387904 by decide) hid g2 (by omega) (H5.ordT 4 [0, 1, 3])
  | true =>
    rw [cond_true]
    have hE : (AF.Meta.entries { dir := dN, S := setT id (sb a) [], Fo := [], D := [] }) = [(id, sb a)] := rfl
    have hwt : AF.wt (AF.Meta.entries { dir := dN, S := setT id (sb a) [], Fo := [], D := [] }) ≤ 4030 := by
      rw [hE]
      show (30 + (sb a).length) + 0 ≤ 4030
      omega
    refine (live_fold (upto := id) (w := 4030) I2 (by show A2.steps + 1 + 0 + 30 < _; omega) (show dN.size < 4611686018427387904 by decide) hwt (by decide) (by omega) (by show 1 < 4000; decide) H5).mono ?_
    rintro v h6 ⟨A3, M3, T3, e, rfl, he, hne, I3, hd3, hE3, _, u3, H6⟩
    have s3 : A3.steps ≤ A2.steps + (1 + 8) := u3.steps
    have he0 : e = 0 := by
      rcases he with he | he
      · exact he
      · exact absurd (Int.le_refl id) (hne he (id, sb a) (by rw [hE]; exact List.mem_cons_self ..))
    subst he0
    rw [DI_int, show (((0 : Nat) : Int) != 0) = false from rfl, cond_false]
    have g3 : M3.get id = some (sb a) := by
      rw [← I3.getE, hE3, hE]
      simp [getT]
    exact onceT_spec I3 (by omega) (by rw [hd3]; show dN.size < 4611686018427387904; decide) hid g3 (by omega) (H6.ordT 4 [0, 1, 3])
end

end Go.Proofs.YticjjdhaikbdaaaGreat
