/- The document's sums and frames, in the program of seat Z. -/
import Derived.Test.YticjjdhaikbdaaaGreatPpRefA
import Derived.Test.YticjjdhaikbdaaaGreatPpPlA
import Derived.Test.YticjjdhaikbdaaaGreatPpTh
namespace Go.Proofs.YticjjdhaikbdaaaGreat
open Go Go.RowKit
set_option linter.unusedVariables false
set_option linter.unusedSimpArgs false
open Crc (Run More Tn T)
open Frame (be4 val4 packN firstN refAt scanN reach be4_B8 val4_lt val4_take packN_length packN_B8)

theorem bt_at {b : ByteArray} {i : Nat} {u : UInt8} (hi : b.data.toList[i]? = some u) : bt b (i : Int) = (u.toNat : Int) := by
  unfold bt
  rw [Int.toNat_natCast, hi]
  rfl
theorem step64 {c : Nat} (h : c < 4294967296) :
    (bif ((Int.tmod (c : Int) 2) : Int) == 1 then bitsI .xor .u64 (IntKind.wrap .u64 (Int.tdiv (c : Int) 2)) 2197175160 else IntKind.wrap .u64 (Int.tdiv (c : Int) 2)) = ((T c : Nat) : Int) := by
  have e1 : Int.tmod (c : Int) 2 = ((c % 2 : Nat) : Int) := tmod_nat c 2
  have e2 : Int.tdiv (c : Int) 2 = ((c / 2 : Nat) : Int) := tdiv_nat c 2
  rw [e1, e2, IntWalk.u64_in _ (by omega)]
  unfold Crc.T
  by_cases ho : c % 2 = 1
  · rw [ho, if_pos rfl]
    exact xor64 (a := c / 2) (b := 2197175160) (by omega) (by decide)
  · have h0 : c % 2 = 0 := by omega
    rw [h0, if_neg (by decide), Nat.xor_zero]
    rfl
theorem F118_spec {b : ByteArray} (hb : b.size < 9223372036854775807) {h : Heap} : CallsH Tryz.prog 118 [.string b] h fun v h' => v = .int .u32 (More 0 (nb b.data.toList) : Nat) ∧ h' = h := by
  apply F118_ok
  unfold F118
  have hlt : ∀ i, Run 4294967295 (nb (b.data.toList.take i)) < 4294967296 := fun i => Crc.Run_lt _ (by decide) (nb_lt _)
  have hsz : b.data.toList.length = b.size := rfl
  refine LoopH.count b.size (fun i => (((Run 4294967295 (nb (b.data.toList.take i)) : Nat) : Int), (i : Int))) (fun s => ((b.size : Int) - s.2).toNat) (fun i hi => by simp) ?_ ?_
  · intro i again hi ha
    rw [decide_eq_true (show ((i : Int) < (b.size : Int)) by omega)]
    refine ⟨by show (0:Int) ≤ (i:Int); omega, by show ((i : Int) < (b.size : Int)); omega, ?_⟩
    obtain ⟨u, hu⟩ : ∃ u, b.data.toList[i]? = some u := ⟨_, List.getElem?_eq_getElem (by rw [hsz]; exact hi)⟩
    have hu8 := u.toNat_lt
    have hli := hlt i
    have e0 : bitsI .xor .u64 ((Run 4294967295 (nb (b.data.toList.take i)) : Nat) : Int) (IntKind.wrap .u64 (u.toNat : Int)) = ((Run 4294967295 (nb (b.data.toList.take i)) ^^^ u.toNat : Nat) : Int) := by
      rw [IntWalk.u64_in _ (by omega)]
      exact xor64 (by omega) (by omega)
    simp only [bt_at hu, e0]
    have hc := Crc.xor_lt (hlt i) (b := u.toNat) (by omega)
    rw [Run_take _ _ _ _ hu] at ha
    generalize (Run 4294967295 (nb (b.data.toList.take i)) ^^^ u.toNat) = c at ha hc ⊢
    refine LoopH.count 8 (fun j => (((Tn j c : Nat) : Int), (j : Int))) (fun s => (8 - s.2).toNat) (fun i hi => by simp) ?_ ?_
    · intro j ag hj hag
      rw [decide_eq_true (show ((j : Int) < 8) by omega)]
      refine ⟨by decide, by decide, ?_⟩
      have hst := step64 (Crc.Tn_lt j hc)
      rw [Tn_succ, ← hst] at hag
      rw [wrap64_succ (by omega)]
      cases hd : ((Int.tmod ((Tn j c : Nat) : Int) 2) : Int) == 1 with
      | true => rw [hd] at hag; exact hag
      | false => rw [hd] at hag; exact hag
    · intro ag
      show again (_, _) _
      rw [wrap64_succ (by omega)]
      exact ha
  · intro again
    rw [decide_eq_false (show ¬ ((b.size : Int) < (b.size : Int)) by omega)]
    refine ⟨?_, rfl⟩
    show Value.int .u32 (IntKind.wrap .u32 (bitsI .xor .u64 _ 4294967295)) = _
    rw [List.take_of_length_le (Nat.le_of_eq hsz)]
    have hl := Crc.Run_lt (nb b.data.toList) (c := 4294967295) (by decide) (nb_lt _)
    rw [show (4294967295 : Int) = ((4294967295 : Nat) : Int) from rfl, xor64 (by omega) (by decide), IntWalk.u32_in _ (by have := Crc.xor_lt hl (b := 4294967295) (by decide); omega), Nat.xor_comm]
    rfl

theorem F117_spec {n : Nat} (hn : n < 4294967296) {h : Heap} {F : List HProp} (hF : sat F h) :
    CallsH Tryz.prog 117 [.int .u32 (n : Int)] h fun v h' => v = .string (ofN (be4 n)) ∧ sat F h' := by
  apply F117_ok
  unfold F117
  refine ⟨by decide, by decide, by decide, by decide, by decide, by decide, Al_sat hF fun b h' H => ⟨ofN (be4 n), ?_, rfl, H.drop⟩⟩
  have H2 : sat (ownS 5 1 (some ⟨b, 0, none⟩) 4 4 ((be4 n).map nv) :: F) h' := by
    refine ownS_mk H (nofz_zero _) (by decide) (by unfold maxLen; decide) rfl ?_
    have e1 : Int.tdiv (n : Int) 16777216 = ((n / 16777216 : Nat) : Int) := tdiv_nat _ _
    have e2 : Int.tdiv (n : Int) 65536 = ((n / 65536 : Nat) : Int) := tdiv_nat _ _
    have e3 : Int.tdiv (n : Int) 256 = ((n / 256 : Nat) : Int) := tdiv_nat _ _
    have e4 : ∀ m : Nat, Int.tmod (m : Int) 256 = ((m % 256 : Nat) : Int) := fun m => tmod_nat _ _
    rw [e1, e2, e3, IntWalk.u32_in ((n / 16777216 : Nat) : Int) (by omega), IntWalk.u32_in ((n / 65536 : Nat) : Int) (by omega), IntWalk.u32_in ((n / 256 : Nat) : Int) (by omega), e4, e4, e4, u8_of_nat, u8_of_nat, u8_of_nat, u8_of_nat]
    simp [be4, nv]
  exact bytesIn_of (ownS_read H2) rfl (be4_B8 n)

theorem F46_spec {s : ByteArray} {h : Heap} {F : List HProp} (hF : sat F h) (hm : s.size ≤ 16777208) :
    CallsH Tryz.prog 46 [.string s] h fun v h' => v = .tuple #[.string (ofN (packN (sb s))), .int .i64 0] ∧ sat F h' := by
  apply F46_ok
  unfold F46
  have hsl := sb_length s
  rw [decide_eq_false (show ¬ ((s.size : Int) > 16777208) by omega), cond_false, IntWalk.u32_in (s.size : Int) (by omega)]
  refine (F117_spec (by omega) hF).mono ?_
  rintro v h1 ⟨rfl, H1⟩
  rw [DS_string]
  have e1 : sb (ofN (be4 s.size)) = be4 s.size := sb_ofN (be4_B8 _)
  have z1 : (ofN (be4 s.size)).size = 4 := by rw [← sb_length, e1]; rfl
  refine ⟨by omega, ?_⟩
  have e2 : sb (ofN (be4 s.size) ++ s) = be4 s.size ++ sb s := by rw [sb_append, e1]
  refine (F118_spec (b := ofN (be4 s.size) ++ s) (by rw [← sb_length, e2, List.length_append, hsl]; simp [be4]; omega)).mono ?_
  rintro v h2 ⟨rfl, rfl⟩
  rw [DI_int, show nb (ofN (be4 s.size) ++ s).data.toList = be4 s.size ++ sb s from e2]
  have hM2 : More 0 (be4 s.size ++ sb s) < 4294967296 := More_B ((be4_B8 _).append (sb_B8 s)) (by decide)
  refine (F117_spec hM2 H1).mono ?_
  rintro v h3 ⟨rfl, H3⟩
  rw [DS_string]
  have e3 : sb (ofN (be4 (More 0 (be4 s.size ++ sb s)))) = be4 (More 0 (be4 s.size ++ sb s)) := sb_ofN (be4_B8 _)
  have z3 : (ofN (be4 (More 0 (be4 s.size ++ sb s)))).size = 4 := by rw [← sb_length, e3]; rfl
  have e4 : sb (ofN (be4 s.size) ++ ofN (be4 (More 0 (be4 s.size ++ sb s)))) = be4 s.size ++ be4 (More 0 (be4 s.size ++ sb s)) := by rw [sb_append, e1, e3]
  refine ⟨by omega, by rw [← sb_length, e4]; simp [be4]; omega, ?_, H3⟩
  refine congrArg (fun z => Value.tuple #[.string z, .int .i64 0]) (sb_inj ?_)
  rw [sb_append, e4, sb_ofN (packN_B8 (sb_B8 s))]
  unfold packN
  rw [hsl]

theorem num64 {x0 x1 x2 x3 : Nat} (h0 : x0 < 256) (h1 : x1 < 256) (h2 : x2 < 256) (h3 : x3 < 256) :
    IntKind.wrap .u64 ((IntKind.wrap .u64 ((IntKind.wrap .u64 ((IntKind.wrap .u64 ((IntKind.wrap .u64 (x0 : Int)) * 16777216)) + (IntKind.wrap .u64 ((IntKind.wrap .u64 (x1 : Int)) * 65536)))) + (IntKind.wrap .u64 ((IntKind.wrap .u64 (x2 : Int)) * 256)))) + (IntKind.wrap .u64 (x3 : Int)))
      = ((x0 * 16777216 + x1 * 65536 + x2 * 256 + x3 : Nat) : Int) := by
  simp only [IntKind.wrap_u64]
  omega
theorem F72_spec {s : ByteArray} {p : Nat} {h : Heap} {F : List HProp} (hF : sat F h) (hp : p ≤ s.size) (hs : s.size ≤ 16777216) :
    CallsH Tryz.prog 72 [.string s, .int .i64 (p : Int)] h fun v h' => v = .tuple #[.string (ofN (refAt ((sb s).drop p)).1), .bool (refAt ((sb s).drop p)).2] ∧ sat F h' := by
  apply F72_ok
  unfold F72
  have hsl := sb_length s
  have h8 := sb_B8 s
  have w1 : IntKind.wrap .i64 ((s.size : Int) - (p : Int)) = ((s.size - p : Nat) : Int) := by rw [IntWalk.i64_in _ (by omega)]; omega
  have hbl : ((sb s).drop p).length = s.size - p := by rw [List.length_drop, hsl]
  rw [decide_eq_false (show ¬ ((p : Int) < 0) by omega), cond_false, w1]
  by_cases h1 : s.size - p < 8
  · rw [decide_eq_true (show (((s.size - p : Nat) : Int) < 8) by omega), cond_true]
    refine ⟨?_, hF⟩
    unfold refAt
    rw [if_pos (by omega)]
    rfl
  · rw [decide_eq_false (show ¬ (((s.size - p : Nat) : Int) < 8) by omega), cond_false]
    have a1 : IntKind.wrap .i64 ((p : Int) + 1) = ((p + 1 : Nat) : Int) := by rw [IntWalk.i64_in _ (by omega)]; omega
    have a2 : IntKind.wrap .i64 ((p : Int) + 2) = ((p + 2 : Nat) : Int) := by rw [IntWalk.i64_in _ (by omega)]; omega
    have a3 : IntKind.wrap .i64 ((p : Int) + 3) = ((p + 3 : Nat) : Int) := by rw [IntWalk.i64_in _ (by omega)]; omega
    have a8 : IntKind.wrap .i64 ((p : Int) + 8) = ((p + 8 : Nat) : Int) := by rw [IntWalk.i64_in _ (by omega)]; omega
    have get : ∀ j, j < 4 → ∃ x, (sb s)[p + j]? = some x ∧ ((sb s).drop p).getD j 0 = x ∧ x < 256 := fun j hj => by
      obtain ⟨x, hx⟩ : ∃ x, (sb s)[p + j]? = some x := ⟨_, List.getElem?_eq_getElem (by omega)⟩
      refine ⟨x, hx, ?_, h8 x (List.mem_of_getElem? hx)⟩
      rw [List.getD_eq_getElem?_getD, List.getElem?_drop, hx]
      rfl
    obtain ⟨x0, g0, d0, l0⟩ := get 0 (by decide)
    obtain ⟨x1, g1, d1, l1⟩ := get 1 (by decide)
    obtain ⟨x2, g2, d2, l2⟩ := get 2 (by decide)
    obtain ⟨x3, g3, d3, l3⟩ := get 3 (by decide)
    have hv : val4 ((sb s).drop p) = x0 * 16777216 + x1 * 65536 + x2 * 256 + x3 := by unfold val4; rw [d0, d1, d2, d3]
    rw [a1, a2, a3, a8]
    have hn := num64 l0 l1 l2 l3
    rw [← hv] at hn
    rw [bt_sb (i := p) g0, bt_sb (i := p + 1) g1, bt_sb (i := p + 2) g2, bt_sb (i := p + 3) g3]
    rw [hn]
    have w4 : IntKind.wrap .u64 (IntKind.wrap .i64 (((s.size - p : Nat) : Int) - 8)) = ((s.size - p - 8 : Nat) : Int) := by
      rw [IntWalk.i64_in _ (by omega), IntWalk.u64_in _ (by omega)]
      omega
    rw [w4]
    have hvlt := val4_lt (h8.drop p)
    refine ⟨by omega, by omega, by omega, by omega, by omega, by omega, by omega, by omega, ?_⟩
    by_cases h2 : val4 ((sb s).drop p) > s.size - p - 8
    · rw [decide_eq_true (show (((val4 ((sb s).drop p) : Nat) : Int) > ((s.size - p - 8 : Nat) : Int)) by omega), cond_true]
      refine ⟨?_, hF⟩
      unfold refAt
      rw [if_neg (by omega), if_pos (by omega)]
      rfl
    · rw [decide_eq_false (show ¬ (((val4 ((sb s).drop p) : Nat) : Int) > ((s.size - p - 8 : Nat) : Int)) by omega), cond_false]
      generalize hN : val4 ((sb s).drop p) = n at *
      have w5 : IntKind.wrap .i64 (((p + 8 : Nat) : Int) + IntKind.wrap .i64 (n : Int)) = ((p + 8 + n : Nat) : Int) := by
        rw [wrap64_nat (by omega), IntWalk.i64_in _ (by omega)]
        omega
      rw [w5]
      refine ⟨by omega, by omega, by omega, ?_⟩
      rw [Int.toNat_natCast, Int.toNat_natCast]
      have e1 : sb (s.extract (p + 8) (p + 8 + n)) = (((sb s).drop p).drop 8).take n := by
        rw [sb_extract, List.drop_drop]
        congr 1
        omega
      have hz : (s.extract (p + 8) (p + 8 + n)).size ≤ 16777208 := by
        rw [← sb_length, e1, List.length_take]
        omega
      refine (F46_spec hF hz).mono ?_
      rintro v h1 ⟨rfl, H1⟩
      refine ⟨_, _, rfl, ?_⟩
      rw [show ((0 : Int) == 0) = true from rfl, cond_true]
      refine ⟨by omega, by omega, by omega, ?_⟩
      rw [Int.toNat_natCast, Int.toNat_natCast]
      refine ⟨?_, H1⟩
      have e2 : sb (s.extract p (p + 8 + n)) = ((sb s).drop p).take (8 + n) := by
        rw [sb_extract]
        congr 1
        omega
      have e3 : s.extract (p + 8) (p + 8 + n) = ofN ((((sb s).drop p).drop 8).take n) := sb_inj (by rw [e1, sb_ofN (((h8.drop p).drop 8).take n)])
      have hr : refAt ((sb s).drop p) = ((((sb s).drop p).drop 8).take n, decide (n ≤ 16777208) && decide (packN ((((sb s).drop p).drop 8).take n) = ((sb s).drop p).take (8 + n))) := by
        unfold refAt
        rw [if_neg (by omega), hN, if_neg (by omega)]
      rw [hr, strEq_eq, e2, sb_ofN (packN_B8 (sb_B8 _)), e1, ← e3, decide_eq_true (show n ≤ 16777208 by omega), Bool.true_and]

end Go.Proofs.YticjjdhaikbdaaaGreat
