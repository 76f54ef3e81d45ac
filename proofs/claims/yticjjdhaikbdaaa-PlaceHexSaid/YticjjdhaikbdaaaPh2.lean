/- PlaceHex: the walk. -/
import Derived.Test.YticjjdhaikbdaaaPh1
namespace Go.Proofs.Yticjjdhaikbdaaa
open Go Go.RowKit
open Hex (hexd digs hv uh unhex)
set_option linter.unusedVariables false
set_option linter.unusedSimpArgs false

section
variable {F : List HProp} {h : Heap}
theorem F46_spec {s : ByteArray} (hz : s.size ≤ 4000) (H : sat F h) : CallsH Try.prog 46 [.string s] h fun v h' => v = unhexV (unhex (sb s)) ∧ sat F h' := by
  apply F46_ok
  unfold F46
  have hsl := sb_length s
  have h8 := sb_B8 s
  by_cases hs16 : s.size = 16
  · rw [show (((s.size : Nat) : Int) != 16) = false from by rw [hs16]; rfl, cond_false]
    refine ⟨by omega, by omega, ?_⟩
    obtain ⟨x0, hx0⟩ : ∃ x, (sb s)[0]? = some x := ⟨_, List.getElem?_eq_getElem (by omega)⟩
    have hb0 := bt_sb hx0
    rw [show (((0 : Nat) : Int)) = (0 : Int) from rfl] at hb0
    rw [hb0]
    by_cases h55 : x0 > 55
    · rw [decide_eq_true (by omega), cond_true]
      have : unhex (sb s) = none := by
        unfold unhex
        rw [if_pos (by omega)]
        cases hu : uh (sb s) 0 with
        | none => rfl
        | some v =>
          have hcons : sb s = x0 :: (sb s).drop 1 := by
            cases hs : sb s with
            | nil => rw [hs] at hx0; cases hx0
            | cons y l => rw [hs] at hx0; cases hx0; rfl
          rw [hcons] at hu
          unfold uh at hu
          cases hv0 : hv x0 with
          | none => rw [hv0] at hu; cases hu
          | some k =>
            rw [hv0] at hu
            have hge := Hex.uh_ge _ _ _ hu
            have hk8 : 8 ≤ k := by
              unfold hv at hv0
              split at hv0
              · cases hv0; omega
              · split at hv0
                · cases hv0; omega
                · cases hv0
            have hl15 : ((sb s).drop 1).length = 15 := by rw [List.length_drop]; omega
            rw [hl15] at hge
            have : 8 * 16 ^ 15 ≤ (16 * 0 + k) * 16 ^ 15 := Nat.mul_le_mul_right _ (by omega)
            have hv2 : 9223372036854775808 ≤ v := Nat.le_trans (Nat.le_trans (by decide) this) hge
            simp only [if_neg (show ¬ v < 9223372036854775808 by omega)]
      rw [this]
      exact ⟨rfl, H⟩
    · rw [decide_eq_false (by omega), cond_false]
      refine ⟨fun st hh => hh = h ∧ ∃ (i n : Nat), st = ((n : Int), (i : Int)) ∧ i ≤ 16 ∧ uh ((sb s).take i) 0 = some n ∧ (i = 0 → n = 0) ∧ (0 < i → n < 8 * 16 ^ (i - 1)), fun st _ => (16 - st.2).toNat, ⟨rfl, 0, 0, rfl, Nat.zero_le _, rfl, fun _ => rfl, fun h => by omega⟩, ?_⟩
      rintro st h2 ⟨rfl, i, n, rfl, hi, hn, hz0, hlt⟩
      by_cases hil : i < 16
      · rw [decide_eq_true (show ((i : Int) < 16) by omega), cond_true]
        refine ⟨by omega, by omega, ?_⟩
        obtain ⟨x, hx⟩ : ∃ x, (sb s)[i]? = some x := ⟨_, List.getElem?_eq_getElem (by omega)⟩
        have hx8 := h8 x (List.mem_of_getElem? hx)
        rw [bt_sb hx]
        have htake : uh ((sb s).take (i + 1)) 0 = uh [x] n := by
          rw [List.take_add_one, hx]
          show uh ((sb s).take i ++ [x]) 0 = _
          rw [Hex.uh_append, hn]
          rfl
        have bad : hv x = none → unhexV (unhex (sb s)) = .tuple #[.int .i64 0, .bool false] := by
          intro hvx
          have hu : uh (sb s) 0 = none := by
            rw [← List.take_append_drop (i + 1) (sb s), Hex.uh_append, htake]
            unfold uh
            rw [hvx]
            rfl
          have : unhex (sb s) = none := by
            unfold unhex
            rw [hu]
            simp
          rw [this]
          rfl
        have hnb : n ≤ 576460752303423487 := by
          by_cases hi0 : i = 0
          · rw [hz0 hi0]; omega
          · have h1 := hlt (by omega)
            have h2 : 16 ^ (i - 1) ≤ 72057594037927936 := Nat.le_trans (Nat.pow_le_pow_right (by omega) (show i - 1 ≤ 14 by omega)) (by decide)
            omega
        have good : ∀ k, hv x = some k → (h2 = h2 ∧ ∃ (j n' : Nat), (((16 * n + k : Nat) : Int), IntKind.wrap .i64 ((i : Int) + 1)) = (((n' : Nat) : Int), (j : Int)) ∧ j ≤ 16 ∧ uh ((sb s).take j) 0 = some n' ∧ (j = 0 → n' = 0) ∧ (0 < j → n' < 8 * 16 ^ (j - 1))) ∧ (16 - IntKind.wrap .i64 ((i : Int) + 1)).toNat < (16 - (i : Int)).toNat := by
          intro k hk
          have hk15 := Hex.hv_le hk
          rw [wrap64_succ (by omega)]
          refine ⟨⟨rfl, i + 1, 16 * n + k, rfl, by omega, ?_, fun h => by omega, fun _ => ?_⟩, by omega⟩
          · rw [htake]
            unfold uh
            rw [hk]
            rfl
          · show 16 * n + k < 8 * 16 ^ i
            by_cases hi0 : i = 0
            · subst hi0
              rw [hz0 rfl]
              have hxx : x = x0 := by rw [hx0] at hx; exact (Option.some.inj hx).symm
              have : k ≤ 7 := by
                unfold hv at hk
                split at hk
                · cases hk; omega
                · split at hk
                  · cases hk; omega
                  · cases hk
              simp
              omega
            · have h1 := hlt (by omega)
              have hp : 16 ^ i = 16 ^ (i - 1) * 16 := by rw [← Nat.pow_succ]; congr 1; omega
              rw [hp]
              omega
        by_cases h48 : 48 ≤ x
        · rw [decide_eq_true (show ((x : Int) ≥ 48) by omega), cond_true]
          by_cases h57 : x ≤ 57
          · rw [decide_eq_true (show ((x : Int) ≤ 57) by omega), cond_true]
            have w : IntKind.wrap .i64 (IntKind.wrap .i64 ((n : Int) * 16) + IntKind.wrap .i64 (IntKind.wrap .u8 ((x : Int) - 48))) = ((16 * n + (x - 48) : Nat) : Int) := by
              rw [IntWalk.i64_in ((n : Int) * 16) (by omega), IntWalk.u8_in ((x : Int) - 48) (by omega), IntWalk.i64_in ((x : Int) - 48) (by omega), IntWalk.i64_in _ (by omega)]
              omega
            rw [w]
            exact good (x - 48) (by unfold hv; rw [if_pos ⟨h48, h57⟩])
          · rw [decide_eq_false (show ¬ ((x : Int) ≤ 57) by omega), cond_false]
            by_cases h97 : 97 ≤ x
            · rw [decide_eq_true (show ((x : Int) ≥ 97) by omega), cond_true]
              by_cases h102 : x ≤ 102
              · rw [decide_eq_true (show ((x : Int) ≤ 102) by omega), cond_true]
                have w : IntKind.wrap .i64 (IntKind.wrap .i64 (IntKind.wrap .i64 ((n : Int) * 16) + IntKind.wrap .i64 (IntKind.wrap .u8 ((x : Int) - 97))) + 10) = ((16 * n + (x - 87) : Nat) : Int) := by
                  rw [IntWalk.i64_in ((n : Int) * 16) (by omega), IntWalk.u8_in ((x : Int) - 97) (by omega), IntWalk.i64_in ((x : Int) - 97) (by omega), IntWalk.i64_in ((n : Int) * 16 + ((x : Int) - 97)) (by omega), IntWalk.i64_in _ (by omega)]
                  omega
                rw [w]
                exact good (x - 87) (by unfold hv; rw [if_neg (by omega), if_pos ⟨h97, h102⟩])
              · rw [decide_eq_false (show ¬ ((x : Int) ≤ 102) by omega), cond_false, bad (by unfold hv; rw [if_neg (by omega), if_neg (by omega)])]
                exact ⟨rfl, H⟩
            · rw [decide_eq_false (show ¬ ((x : Int) ≥ 97) by omega), cond_false, bad (by unfold hv; rw [if_neg (by omega), if_neg (by omega)])]
              exact ⟨rfl, H⟩
        · rw [decide_eq_false (show ¬ ((x : Int) ≥ 48) by omega), cond_false, decide_eq_false (show ¬ ((x : Int) ≥ 97) by omega), cond_false, bad (by unfold hv; rw [if_neg (by omega), if_neg (by omega)])]
          exact ⟨rfl, H⟩
      · rw [decide_eq_false (by omega), cond_false]
        have ei : i = 16 := by omega
        subst ei
        rw [List.take_of_length_le (by omega)] at hn
        have hlt2 : n < 9223372036854775808 := hlt (by omega)
        have hu : unhex (sb s) = some n := by
          unfold unhex
          rw [if_pos (by omega), hn]
          simp only [if_pos hlt2]
        rw [hu]
        exact ⟨rfl, H⟩
  · rw [show (((s.size : Nat) : Int) != 16) = true from by rw [bne_iff_ne]; omega, cond_true]
    have : unhex (sb s) = none := by
      unfold unhex
      rw [if_neg (by omega)]
    rw [this]
    exact ⟨rfl, H⟩
theorem PlaceHex_law (n : Int) (s : ByteArray) (hn : -9223372036854775808 ≤ n ∧ n ≤ 9223372036854775807) (h : Heap) : CallsH Try.prog 10 [.int .i64 n, .string s] h (Good h) := by
  apply F10_ok
  unfold F10
  refine (F38_spec (sat_old h)).mono ?_
  rintro v h0 ⟨rfl, H0⟩
  rw [DB_bool, Bool.not_true, cond_false]
  by_cases hbig : s.size > 4000
  · rw [decide_eq_true (show ((s.size : Int) > 4000) by omega), cond_true]
    exact good_of H0
  rw [decide_eq_false (show ¬ ((s.size : Int) > 4000) by omega), cond_false]
  refine (F45_spec (by omega) H0).mono ?_
  rintro v h1 ⟨rfl, H1⟩
  refine ⟨_, _, rfl, ?_⟩
  refine (F46_spec (by omega) H1).mono ?_
  rintro v h2 ⟨rfl, H2⟩
  refine ⟨_, _, rfl, ?_⟩
  rw [bne_self_eq_false, cond_false, beq_self_eq_true, Bool.not_true, cond_false]
  refine (F39_spec H2).mono ?_
  rintro v h3 ⟨rfl, H3⟩
  rw [DS_string]
  refine (F47_spec H3).mono ?_
  rintro v h4 ⟨rfl, H4⟩
  rw [DS_string, show strEq (ofN (digs 16 (natOf n))) (ofN (digs 16 (natOf n))) = true from by rw [strEq_eq]; simp, Bool.not_true, cond_false]
  refine (F39_spec H4).mono ?_
  rintro v h5 ⟨rfl, H5⟩
  rw [DS_string]
  have hsz : (ofN (digs 16 (natOf n))).size = 16 := by rw [← sb_length, sb_ofN (Hex.digs_B8 16 _), Hex.digs_length]
  refine (F45_spec (by omega) H5).mono ?_
  rintro v h6 ⟨rfl, H6⟩
  rw [sb_ofN (Hex.digs_B8 16 _), Hex.unhex_digs (natOf_lt n)]
  have hw := natOf_eq n
  rw [IntKind.wrap_u64] at hw
  refine ⟨_, _, rfl, ?_⟩
  by_cases hp : 0 ≤ n
  · have hlt : natOf n < 9223372036854775808 := by omega
    rw [if_pos hlt, decide_eq_true (show n ≥ 0 from hp)]
    show bif (true == true) then _ else _
    rw [show (true == true) = true from rfl, cond_true]
    show bif (!true) then _ else _
    rw [Bool.not_true, cond_false]
    have : ((((some (natOf n)).getD 0 : Nat) : Int) == n) = true := by
      show (((natOf n : Nat) : Int) == n) = true
      rw [beq_iff_eq]
      omega
    rw [this]
    exact good_of H6
  · have hlt : ¬ natOf n < 9223372036854775808 := by omega
    rw [if_neg hlt, decide_eq_false (show ¬ n ≥ 0 from hp)]
    show bif (false == false) then _ else _
    rw [show (false == false) = true from rfl, cond_true]
    show bif (!false) then _ else _
    rw [Bool.not_false, cond_true]
    exact good_of H6
end

end Go.Proofs.Yticjjdhaikbdaaa
