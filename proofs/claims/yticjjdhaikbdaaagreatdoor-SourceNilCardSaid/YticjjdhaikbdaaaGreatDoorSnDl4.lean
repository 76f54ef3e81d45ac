/- The chapter's example of a source (seat D). -/
import Derived.Test.YticjjdhaikbdaaaGreatDoorSnDl3
namespace Go.Proofs.YticjjdhaikbdaaaGreatDoor
open Go Go.RowKit
open Dl (LP isOpen cnt pass Ref Fits)
set_option linter.unusedVariables false
set_option linter.unusedSimpArgs false
set_option maxRecDepth 8000

theorem idxSame {h : Heap} {a : Addr} {xs : List Value} {v : Value} {l i : Nat} (hr : RdC h (some a) xs) (hl : xs.length = l) (hi : xs[i]? = some v) : IdxA (some a) l (i : Int) 1 fun a4 => SameV (some (.pointer (some (a.add i)))) (.pointer (some a4)) := by
  refine IdxA_nat hr hl hi fun b hb _ => ?_
  cases hb
  rfl
theorem ldSame {h : Heap} {a : Addr} {xs : List Value} {x : Int} {i : Nat} (hr : RdC h (some a) xs) (hi : xs[i]? = some (iv x)) : Ld h (a.add i) fun v => DI .i64 v fun y => SameV (some (.int .i64 x)) (.int .i64 y) :=
  CI (hr i _ hi) rfl
abbrev apd : AF.FS × AF.Log × Except Nat Nat := (lg p1).append fs2 [120]
theorem apd_ok : apd.2.2 = .ok 0 := by kernel_rfl
abbrev syn : AF.FS × Nat := apd.2.1.sync apd.1
theorem syn_ok : syn.2 = 0 := by kernel_rfl
theorem syn_dur : (apd.2.1.synced syn.2).dur = 1 := by kernel_rfl
theorem dealt_ex {l : LP} (h : Ref (zs [5, 1, 9]) 7 l) : l = [(5, 3), (1, 1), (9, 3)] :=
  h.uniq (.step (by decide) (by decide) (.step (by decide) (by decide) (.step (by decide) (by decide) (.done (by decide)))))
section
variable {h : Heap} {F : List HProp} {s l0 l1 b : Nat} {L0 L1 : AF.Log}
theorem ends01 (d0 : L0.dur = 0) (d1 : L1.dur = 1) (H : sat (src s l0 l1 :: logP l0 b L0 :: logP l1 b L1 :: F) h) : CallsH Tryz.prog 21 [ptrV s] h fun v h' => ∃ a, v = .slice (some a) 2 2 ∧ sat (ownS 2 1 (some a) 2 2 [iv 0, iv 1] :: src s l0 l1 :: logP l0 b L0 :: logP l1 b L1 :: F) h' := by
  refine (F21_two H).mono ?_
  rintro v h' ⟨a, rfl, H1⟩
  rw [d0, d1] at H1
  obtain ⟨_, ⟨_, h0, _⟩ | ⟨b2, _, _, rfl, _⟩⟩ := ownS_cases H1
  · cases h0
  · exact ⟨_, rfl, H1⟩
end
theorem F8_spec {h : Heap} {F : List HProp} (H : sat F h) : CallsH Tryz.prog 8 [] h fun v h' => v = .bool true ∧ sat F h' := by
  apply F8_ok
  unfold F8
  refine Al_sat H fun b0 h1 H1 => ?_
  refine (F11_spec (hs := [5, 1, 9]) (n := 3) (fun h' H' => by exact RdCf H' rfl) rfl (by decide) (by decide) (by decide) H1).mono ?_
  rintro v h2 ⟨a, l, rfl, hR, _, _, H2⟩
  have el := dealt_ex hR
  subst el
  rw [DSl_slice]
  refine (F12_spec (room := 1000) H2 (by decide)).mono ?_
  rintro v h3 ⟨b, rfl, H3⟩
  refine ⟨some ⟨b, 0, none⟩, 0, rfl, ?_⟩
  rw [show ((0 : Int) != 0) = false from rfl, cond_false, show (((3 : Nat) : Int) != 3) = false from rfl, cond_false]
  have hr := ownS_read (H3.mv 1)
  refine numRead (i := 0) (s := 3) hr rfl rfl fun b2 hc => CI hc ?_
  rw [show ((3 : Int) != 3) = false from rfl, cond_false]
  refine numRead (i := 1) (s := 1) hr rfl rfl fun b2 hc => CI hc ?_
  rw [show ((1 : Int) != 1) = false from rfl, cond_false]
  refine numRead (i := 2) (s := 3) hr rfl rfl fun b2 hc => CI hc ?_
  rw [show ((3 : Int) != 3) = false from rfl, cond_false]
  refine (F13_two H3).mono ?_
  rintro v h4 ⟨s, l0, l1, rfl, W2, H4⟩
  refine ⟨some ⟨s, 0, none⟩, 0, rfl, ?_⟩
  rw [show ((0 : Int) != 0) = false from rfl, cond_false, show (some (⟨s, 0, none⟩ : Addr)).isNone = false from rfl, cond_false]
  refine Al_sat H4 fun b1 h5 H5 => ?_
  refine convBytes_sat (by kernel_rfl) (by kernel_rfl) H5 fun h6 H6 => ?_
  rw [DSl_slice]
  -- b1, src, logP0, logP1, fsP, dealt, b0, F
  have S0 : AF.Log.Small 0 (lg p1) := AF.Log.small0 (by decide) (by decide)
  have h8 : B8 [120] := fun n hn => by rw [List.mem_singleton] at hn; omega
  have K1 := AF.Log.append_keeps (b := [120]) W2 S0 (by decide) h8
  have hF14 : CallsH Tryz.prog 14 [ptrV s, .int .i64 1, .slice (some ⟨b1, 0, none⟩) 1 1] h6 fun v h' => v = .tuple #[.int .i64 0, .int .i64 0] ∧ sat (logP l1 b apd.2.1 :: fsP b apd.1 :: pt b1 (.cells #[.int .u8 120] 5 (1, 2)) :: src s l0 l1 :: logP l0 b (lg p0) :: dealt 3 a 3 [(5, 3), (1, 1), (9, 3)] :: pt b0 (.cells #[.int .i64 5, .int .i64 1, .int .i64 9] 3 (0, 0)) :: F) h' := by
    apply F14_ok
    unfold F14
    refine (F37_one (H6.mv 1)).mono ?_
    rintro v h7 ⟨rfl, rfl⟩
    refine ⟨some ⟨l1, 0, none⟩, 0, rfl, ?_⟩
    rw [show ((0 : Int) != 0) = false from rfl, cond_false]
    refine (F38_spec (k := 0) (bs := [120]) W2 (by decide) S0 (by decide) (fun h' hh => RdCf hh rfl) h8 rfl (H6.ordT 5 [3, 4, 0, 1, 2])).mono ?_
    rintro v h8 ⟨rfl, H8⟩
    rw [apd_ok]
    exact ⟨0, 0, rfl, rfl, H8⟩
  refine hF14.mono ?_
  rintro v h7 ⟨rfl, H7⟩
  refine ⟨0, 0, rfl, ?_⟩
  rw [show ((0 : Int) == 0) = true from rfl, cond_true]
  have hF15 : CallsH Tryz.prog 15 [ptrV s, .int .i64 1] h7 fun v h' => v = .int .i64 0 ∧ sat (logP l1 b (apd.2.1.synced syn.2) :: fsP b syn.1 :: pt b1 (.cells #[.int .u8 120] 5 (1, 2)) :: src s l0 l1 :: logP l0 b (lg p0) :: dealt 3 a 3 [(5, 3), (1, 1), (9, 3)] :: pt b0 (.cells #[.int .i64 5, .int .i64 1, .int .i64 9] 3 (0, 0)) :: F) h' := by
    apply F15_ok
    unfold F15
    refine (F37_one (H7.mv 3)).mono ?_
    rintro v h8 ⟨rfl, rfl⟩
    refine ⟨some ⟨l1, 0, none⟩, 0, rfl, ?_⟩
    rw [show ((0 : Int) != 0) = false from rfl, cond_false]
    refine (F39_spec (k := 2) K1.1 (Nat.lt_of_le_of_lt K1.2.1 (by decide)) K1.2.2 H7).mono ?_
    rintro v h9 ⟨rfl, H9⟩
    rw [syn_ok] at *
    rw [DI_int]
    exact ⟨rfl, H9⟩
  refine hF15.mono ?_
  rintro v h8 ⟨rfl, H8⟩
  rw [DI_int, show ((0 : Int) == 0) = true from rfl, cond_true]
  have d1 := syn_dur
  generalize apd.2.1.synced syn.2 = L1 at H8 d1
  have J : sat (src s l0 l1 :: logP l0 b (lg p0) :: logP l1 b L1 :: F) h8 := H8.ordT 7 [3, 4, 0]
  clear H8 hF15 hF14
  have d0 : (lg p0).dur = 0 := rfl
  generalize lg p0 = L0 at J d0
  clear hr
  refine ⟨?_, ?_⟩
  · -- the ends first
    refine (ends01 d0 d1 J).mono ?_
    rintro v h9 ⟨e, rfl, J1⟩
    rw [DSl_slice]
    refine ⟨rfl, rfl, rfl, ?_⟩
    refine IdxA_nat (i := 0) (v := iv 0) (ownS_read J1) rfl rfl fun c hb hc => ?_
    cases hb
    refine CI hc ⟨?_, ?_⟩
    · refine (ends01 d0 d1 (J1.mv 1 |>.ordT 4 [0, 2, 3, 1])).mono ?_
      rintro v h10 ⟨e2, rfl, J2⟩
      rw [DSl_slice]
      -- own2, src, logP0, logP1, own1, F
      have r1 := ownS_read (J2.mv 4)
      refine ⟨idxSame (i := 0) r1 rfl rfl, ldSame (i := 0) r1 rfl, rfl, rfl, rfl, ?_⟩
      refine IdxA_nat (i := 1) (v := iv 1) (ownS_read J2) rfl rfl fun c hb hc => ?_
      cases hb
      refine CI hc ⟨?_, ?_⟩
      · refine Al_sat J2 fun b2 h11 J3 => ⟨rfl, rfl, Al_sat J3 fun b3 h12 J4 => ?_⟩
        -- b3, b2, own2, src, logP0, logP1, own1, F
        have q1 := ownS_read (J4.mv 6)
        have q2 := ownS_read (J4.mv 2)
        refine ⟨rfl, idxSame (i := 0) q1 rfl rfl, ldSame (i := 0) q1 rfl, rfl, rfl, idxSame (i := 1) q2 rfl rfl, ldSame (i := 1) q2 rfl, rfl, ?_⟩
        refine (F28_same (rs := [(0, 0), (0, 1)]) (RdCf (J4.mv 1) rfl) (RdCf J4 rfl) rfl (by decide)).mono ?_
        rintro v h13 ⟨rfl, rfl⟩
        rw [DB_bool]
        exact ⟨rfl, J4.drop.drop.drop.drop.drop.drop.drop⟩
      · refine Al_sat J2 fun b2 h11 J3 => ?_
        have q1 := ownS_read (J3.mv 5)
        have q2 := ownS_read (J3.mv 1)
        refine ⟨rfl, idxSame (i := 0) q1 rfl rfl, ldSame (i := 0) q1 rfl, rfl, rfl, idxSame (i := 1) q2 rfl rfl, ldSame (i := 1) q2 rfl, rfl, ?_⟩
        refine Al_sat J3 fun b3 h12 J4 => ⟨rfl, rfl, ?_⟩
        refine (F28_same (rs := [(0, 0), (0, 1)]) (RdCf J4 rfl) (RdCf (J4.mv 1) rfl) rfl (by decide)).mono ?_
        rintro v h13 ⟨rfl, rfl⟩
        rw [DB_bool]
        exact ⟨rfl, J4.drop.drop.drop.drop.drop.drop.drop⟩
    · refine Al_sat J1 fun b2 h10 J2 => ?_
      -- b2, own1, src, logP0, logP1, F
      have r1 := ownS_read (J2.mv 1)
      refine ⟨rfl, idxSame (i := 0) r1 rfl rfl, ldSame (i := 0) r1 rfl, rfl, rfl, ?_⟩
      refine (ends01 d0 d1 (J2.ordT 5 [2, 3, 4, 0, 1])).mono ?_
      rintro v h11 ⟨e2, rfl, J3⟩
      rw [DSl_slice]
      -- own2, src, logP0, logP1, b2, own1, F
      have q1 := ownS_read (J3.mv 5)
      refine ⟨idxSame (i := 0) q1 rfl rfl, ldSame (i := 0) q1 rfl, rfl, rfl, rfl, ?_⟩
      refine IdxA_nat (i := 1) (v := iv 1) (ownS_read J3) rfl rfl fun c hb hc => ?_
      cases hb
      refine CI hc ?_
      refine Al_sat J3 fun b3 h12 J4 => ⟨rfl, rfl, ?_⟩
      -- b3, own2, src, logP0, logP1, b2, own1, F
      refine (F28_same (rs := [(0, 0), (0, 1)]) (RdCf J4 rfl) (RdCf (J4.mv 5) rfl) rfl (by decide)).mono ?_
      rintro v h13 ⟨rfl, rfl⟩
      rw [DB_bool]
      exact ⟨rfl, J4.drop.drop.drop.drop.drop.drop.drop⟩
  · refine Al_sat J fun b2 h9 J1 => ⟨rfl, rfl, ?_⟩
    -- b2, src, logP0, logP1, F
    refine (ends01 d0 d1 (J1.ordT 4 [1, 2, 3, 0])).mono ?_
    rintro v h10 ⟨e, rfl, J2⟩
    rw [DSl_slice]
    refine ⟨rfl, rfl, rfl, ?_⟩
    refine IdxA_nat (i := 0) (v := iv 0) (ownS_read J2) rfl rfl fun c hb hc => ?_
    cases hb
    refine CI hc ?_
    -- own1, src, logP0, logP1, b2, F
    refine (ends01 d0 d1 (J2.ordT 5 [1, 2, 3, 4, 0])).mono ?_
    rintro v h11 ⟨e2, rfl, J3⟩
    rw [DSl_slice]
    -- own2, src, logP0, logP1, b2, own1, F
    have q1 := ownS_read (J3.mv 5)
    refine ⟨idxSame (i := 0) q1 rfl rfl, ldSame (i := 0) q1 rfl, rfl, rfl, rfl, ?_⟩
    refine IdxA_nat (i := 1) (v := iv 1) (ownS_read J3) rfl rfl fun c hb hc => ?_
    cases hb
    refine CI hc ?_
    refine Al_sat J3 fun b3 h12 J4 => ⟨rfl, rfl, ?_⟩
    -- b3, own2, src, logP0, logP1, b2, own1, F
    refine (F28_same (rs := [(0, 0), (0, 1)]) (RdCf J4 rfl) (RdCf (J4.mv 5) rfl) rfl (by decide)).mono ?_
    rintro v h13 ⟨rfl, rfl⟩
    rw [DB_bool]
    exact ⟨rfl, J4.drop.drop.drop.drop.drop.drop.drop⟩

end Go.Proofs.YticjjdhaikbdaaaGreatDoor
