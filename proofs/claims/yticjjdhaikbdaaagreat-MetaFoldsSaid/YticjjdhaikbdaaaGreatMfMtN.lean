/- Pairs out of bytes; a fold's file read back. -/
import Derived.Test.YticjjdhaikbdaaaGreatMfMtL
namespace Go.Proofs.YticjjdhaikbdaaaGreat
open Go Go.RowKit Go.MapKept
set_option linter.unusedVariables false
set_option linter.unusedSimpArgs false
open AF (Meta copyT topT nmI Ent IdOk)
open Hex (digs)

section
variable {F : List HProp} {h : Heap}
theorem word_lt {s : ByteArray} {rest : List Nat} (hl : (wordB (sb s) ++ rest).length ≤ 1099511627776) : (sb s).length < 72057594037927936 := by
  unfold wordB at hl
  simp only [List.length_append] at hl
  omega
theorem F174_text {rb : Nat} {s : ByteArray} {rest : List Nat} (H : sat (readerP rb (wordB (sb s) ++ rest) :: F) h) :
    CallsH Tryz.prog 174 [ptrV rb] h fun v h' => v = .string s ∧ sat (readerP rb rest :: F) h' := by
  obtain ⟨a, c, _, hl, _⟩ := readerP_open H
  have := F174_spec (sb_B8 s) (word_lt hl) H
  rwa [ofN_sb] at this
theorem F173_spec {cb rb : Nat} {p : ByteArray × ByteArray} {rest : List Nat} (H : sat (pt cb (.cells #[ptrV rb] 235 (0, 0)) :: readerP rb (pairB (sb p.1, sb p.2) ++ rest) :: F) h) :
    CallsH Tryz.prog 173 [.pointer (some ⟨cb, 0, none⟩)] h fun v h' => v = .agg #[.string p.1, .string p.2] ∧ sat (pt cb (.cells #[ptrV rb] 235 (0, 0)) :: readerP rb rest :: F) h' := by
  apply F173_ok
  unfold F173
  refine Al_sat H fun b0 h1 H1 => ?_
  refine VPt (H1.mv 1).get ?_
  refine VPt (H1.mv 1).get ?_
  unfold pairB at H1
  rw [List.append_assoc] at H1
  refine (F174_text (H1.mv 2)).mono ?_
  rintro v h2 ⟨rfl, H2⟩
  -- reader, b0, cb, F
  rw [DS_string]
  refine ⟨VPt (H2.mv 2).get rfl, ?_⟩
  refine (F174_text H2).mono ?_
  rintro v h3 ⟨rfl, H3⟩
  rw [DS_string]
  simp only [addr_add0]
  refine StC_sat (H3.mv 1) (by decide) (nofz_zero 2 0 (by decide)) fun h4 H4 => ?_
  refine StC_sat (i := 1) H4 (by simp) (nofz_zero 2 1 (by decide)) fun h5 H5 => ?_
  have H6 : sat (pt b0 (.cells #[.string p.1, .string p.2] 146 (0, 0)) :: readerP rb rest :: pt cb (.cells #[ptrV rb] 235 (0, 0)) :: F) h5 := H5
  refine ⟨.string p.1, by rw [cellAt_of H6.get]; rfl, ?_⟩
  refine ⟨.string p.2, cell_pt (i := 1) H6 rfl, p.1, p.2, rfl, rfl, ?_⟩
  exact (H6.drop).mv 1
theorem numB_pos (n : Nat) : 0 < (numB n).length := by
  obtain ⟨c, t, h, _⟩ := numB_head n
  rw [h, List.length_cons]
  omega
theorem pairs_long (ps : List (ByteArray × ByteArray)) : ps.length ≤ (ps.flatMap fun p => pairB (sb p.1, sb p.2)).length := by
  induction ps with
  | nil => exact Nat.le_refl _
  | cons p ps ih =>
    rw [List.flatMap_cons, List.length_append, List.length_cons]
    have : 0 < (pairB (sb p.1, sb p.2)).length := by
      unfold pairB wordB
      simp only [List.length_append]
      have := numB_pos (sb p.1).length
      omega
    omega
set_option maxHeartbeats 1000000 in
theorem F172_spec {cb rb : Nat} {ps : List (ByteArray × ByteArray)} (H : sat (pt cb (.cells #[ptrV rb] 235 (0, 0)) :: readerP rb (pairsN ps) :: F) h) :
    CallsH Tryz.prog 172 [ptrV rb, .func (.func 173) #[] #[.pointer (some ⟨cb, 0, none⟩)]] h fun v h' => ∃ a c, v = .slice a ps.length c ∧ sat (ownS 146 2 a ps.length c (ps.flatMap pairC) :: pt cb (.cells #[ptrV rb] 235 (0, 0)) :: readerP rb [] :: F) h' := by
  apply F172_ok
  unfold F172
  obtain ⟨_, _, _, hl, _⟩ := readerP_open (H.mv 1)
  rw [← preN_all] at H hl
  unfold preN at H hl
  have hlong := pairs_long ps
  have hlt : ps.length ≤ 1099511627776 := by rw [List.length_append] at hl; omega
  refine (F188_spec (by omega) (H.mv 1)).mono ?_
  rintro v h1 ⟨rfl, H1⟩
  refine ⟨_, rfl, ?_⟩
  obtain ⟨a, c, hc, hl2, H2⟩ := readerP_open H1
  rw [NN'_some]
  refine LdSl H2 rfl ?_
  rw [IntWalk.u64_in _ (by omega), decide_eq_false (show ¬ ((ps.length : Int) > _) by omega), cond_false]
  refine LoopH.upto ps.length (fun i (s : Sl × Int) h2 => s.2 = (i : Int) ∧ i ≤ ps.length ∧ s.1.l = i ∧ sat (ownS 146 2 s.1.a i s.1.c ((ps.take i).flatMap pairC) :: pt cb (.cells #[ptrV rb] 235 (0, 0)) :: readerP rb ((ps.drop i).flatMap fun p => pairB (sb p.1, sb p.2)) :: F) h2) (fun s => ps.length - s.2.toNat) (fun i s h2 hh => ⟨hh.2.1, by rw [hh.1]; omega⟩)
    ⟨rfl, Nat.zero_le _, rfl, ownS_nil 146 2 (H1.mv 1)⟩ ?_ ?_
  · rintro i ⟨⟨sa, sl, sc⟩, s2⟩ h2 again hi ⟨rfl, _, hsl, H3⟩ go
    dsimp only at hsl H3 ⊢
    subst hsl
    rw [decide_eq_true (show ((sl : Int) < (ps.length : Int)) by omega), cond_true]
    obtain ⟨p, hp⟩ : ∃ x, ps[sl]? = some x := ⟨_, List.getElem?_eq_getElem hi⟩
    have hd : ps.drop sl = p :: ps.drop (sl + 1) := by
      rw [List.drop_eq_getElem_cons hi]
      congr 1
      have := List.getElem?_eq_getElem hi
      rw [hp] at this
      exact (Option.some.inj this).symm
    rw [hd, List.flatMap_cons] at H3
    refine CallV_fn ?_
    refine (F173_spec (p := p) (H3.mv 1 |>.ordT 3 [0, 2, 1])).mono ?_
    rintro v h3 ⟨rfl, H4⟩
    -- cb, reader, own, F
    refine ⟨p.1, p.2, rfl, ?_⟩
    refine Al_sat H4 fun b0 h4 H5 => ?_
    refine appendN u144 src144 inf146 (H5.mv 3) (n := 1) (ys := pairC p) (srcOf_slice (RdCf H5 rfl) rfl) (by intro u hu; simp [pairC] at hu; rcases hu with rfl | rfl <;> rfl) (by omega) fun a' c' h5 _ H6 => ?_
    rw [DSl_slice]
    -- own, b0, cb, reader, F
    have e : IntKind.wrap .u64 ((sl : Int) + 1) = ((sl + 1 : Nat) : Int) := by rw [IntWalk.u64_in _ (by omega)]; omega
    rw [e]
    refine go _ _ ⟨rfl, by omega, rfl, ?_⟩
    dsimp only
    have e2 : (ps.take (sl + 1)).flatMap pairC = (ps.take sl).flatMap pairC ++ pairC p := by
      rw [List.take_add_one, hp, List.flatMap_append]
      simp
    rw [e2]
    exact H6.ordT 4 [0, 2, 3]
  · rintro ⟨⟨sa, sl, sc⟩, s2⟩ h2 again ⟨rfl, _, hsl, H3⟩
    dsimp only at hsl H3 ⊢
    subst hsl
    rw [decide_eq_false (by omega), cond_false]
    rw [List.take_length, List.drop_length] at H3
    exact ⟨sa, sc, rfl, H3⟩
theorem F171_spec {rb : Nat} {ps : List (ByteArray × ByteArray)} (H : sat (readerP rb (pairsN ps) :: F) h) :
    CallsH Tryz.prog 171 [ptrV rb] h fun v h' => ∃ a c, v = .slice a ps.length c ∧ sat (ownS 146 2 a ps.length c (ps.flatMap pairC) :: readerP rb [] :: F) h' := by
  apply F171_ok
  unfold F171
  refine Al_sat H fun b0 h1 H1 => ?_
  refine VPt H1.get ?_
  refine (F172_spec H1).mono ?_
  rintro v h2 ⟨a, c, rfl, H2⟩
  rw [DSl_slice]
  exact ⟨a, c, rfl, H2.ordT 3 [0, 2]⟩
theorem F143_spec {a : Option Addr} {c : Nat} {ps : List (ByteArray × ByteArray)} (hc : (pairsN ps).length ≤ c) (hl : (pairsN ps).length ≤ 16777216) (hR : RdC h a ((pairsN ps).map nv)) (H : sat (roP (fun h => RdC h a ((pairsN ps).map nv)) :: F) h) :
    CallsH Tryz.prog 143 [.slice a (pairsN ps).length c] h fun v h' => ∃ a' c', v = .tuple #[.slice a' ps.length c', .int .i64 0] ∧ sat (ownS 146 2 a' ps.length c' (ps.flatMap pairC) :: F) h' := by
  apply F143_ok
  unfold F143
  refine CallsH.mono (Q := fun v h' => ∃ a' c', v = .tuple #[.slice a' ps.length c', .int .i64 0] ∧ sat (ownS 146 2 a' ps.length c' (ps.flatMap pairC) :: F) h') ?_ ?_
  · apply F170_ok
    unfold F170
    refine Al_sat H fun b1 h1 H1 => ?_
    refine Al_sat H1 fun b2 h2 H2 => ?_
    refine Al_sat H2 fun b3 h3 H3 => ?_
    -- b3, b2, b1, ro, F
    have H4 : sat (readerP b3 (pairsN ps) :: pt b2 (.cells #[.int .i64 0] 26 (0, 0)) :: pt b1 (.cells #[.slice none 0 0] 144 (0, 0)) :: F) h3 := readerP_shut (a := a) hc (by omega) (H3.ordT 4 [0, 3, 1, 2])
    refine CallV_fn ?_
    refine (F171_spec H4).mono ?_
    rintro v h4 ⟨a4, c4, rfl, H5⟩
    rw [DSl_slice]
    -- own, reader, b2, b1, F
    refine StCC (H5.mv 3) (by exact Nat.zero_lt_one) rfl fun h5 H6 => ?_
    -- b1, own, reader, b2, F
    obtain ⟨a5, c5, _, _, H7⟩ := readerP_open (H6.mv 2)
    refine LdSl H7 rfl ?_
    rw [show decide ((([] : List Nat).length : Int) > 0) = false from rfl, cond_false, decide_eq_false (show ¬ (((pairsN ps).length : Int) > 16777216) by omega), cond_false]
    -- reader cell, ro, b1, own, b2, F
    refine VSl (H7.mv 2).get ?_
    refine StCC (H7.mv 2) (by exact Nat.zero_lt_one) rfl fun h6 H8 => ?_
    refine StCC (H8.mv 4) (by exact Nat.zero_lt_one) rfl fun h7 H9 => ?_
    refine F187_idle ?_
    -- b2, b1, cell, ro, own, F
    refine VSl (H9.mv 1).get ?_
    refine VIn H9.get ?_
    exact ⟨a4, c4, rfl, H9.ordT 5 [4]⟩
  · rintro v h' ⟨a', c', rfl, H'⟩
    exact ⟨a', _, c', 0, rfl, a', c', rfl, H'⟩
end
end Go.Proofs.YticjjdhaikbdaaaGreat
