/- Frames one behind the other, cut off or with something behind them: the laws of cut and joined frames. -/
import Derived.Test.YtpblcdgglbhdoaaFr4
namespace Go.Proofs.Ytpblcdgglbhdoaa
open Go Go.RowKit
set_option linter.unusedVariables false
set_option linter.unusedSimpArgs false
open Crc (Run More)
open Frame (be4 val4 packN firstN refAt scanN reach be4_B8 val4_lt val4_take packN_length packN_B8 firstN_refAt scanN_eq firstN_some firstN_pack scanN_cut scanN_packs reach_packs)

theorem packs_B8 {xs : List (List Nat)} (h : ∀ x ∈ xs, B8 x) : B8 ((xs.map packN).flatten) := by
  intro n hn
  obtain ⟨l, hl, hnl⟩ := List.mem_flatten.1 hn
  obtain ⟨x, hx, rfl⟩ := List.mem_map.1 hl
  exact packN_B8 (h x hx) n hnl
theorem reach_append (a b : List (List Nat)) : reach (a ++ b) = reach a + reach b := by simp [reach, List.sum_append]
theorem reach_take_succ {xs : List (List Nat)} {i : Nat} {x : List Nat} (hx : xs[i]? = some x) : reach (xs.take (i + 1)) = reach (xs.take i) + (8 + x.length) := by
  rw [List.take_add_one, hx]
  exact reach_snoc _ _
theorem reach_bound {xs : List (List Nat)} {m : Nat} (h : ∀ x ∈ xs, x.length ≤ m) : reach xs ≤ xs.length * (8 + m) := by
  induction xs with
  | nil => exact Nat.zero_le _
  | cons y xs ih =>
    have e : reach (y :: xs) = (8 + y.length) + reach xs := rfl
    have h1 := h y (by simp)
    have h2 := ih fun x hx => h x (by simp [hx])
    rw [e, List.length_cons, Nat.add_mul]
    omega
theorem strRead {ss : List ByteArray} {la : Option Addr} {ll i : Nat} {s : ByteArray} {hh : Heap} {K : Addr → Prop} (hr : RdC hh la (ss.map Value.string)) (hl : ss.length = ll) (hs : ss[i]? = some s)
    (hK : ∀ b, cellAt hh b = some (.string s) → K b) : IdxA la ll (i : Int) 1 K :=
  IdxA_nat (v := .string s) hr (by rw [List.length_map]; exact hl) (by rw [List.getElem?_map, hs]; rfl) fun b hb hc => hK _ hc

theorem cut_exit {ss : List ByteArray} {la : Option Addr} {ll lc cut : Nat} (hcut : cut < 65536) {h0 hh : Heap} (hrl : RdC h0 la (ss.map Value.string)) (hll : ss.length = ll)
    (xs : List (List Nat)) (hxs : xs = (ss.take 20).map sb) (h300 : ∀ x ∈ xs, x.length ≤ 300) {ba : Option Addr} {bl bc : Nat} (H : sat (ownS 5 1 ba bl bc (((xs.map packN).flatten).map nv) :: [old h0]) hh) :
    ((IntKind.wrap .i64 ((bl : Int) + 1)) : Int) ≠ 0 ∧
          SlV ba bc 1 0 (Int.tmod (IntKind.wrap .i64 (cut : Int)) (IntKind.wrap .i64 ((bl : Int) + 1))) (bc : Int) fun s1a s1l s1c =>
          CallsH Try.prog 24 [.slice s1a s1l s1c] hh fun r4 h_5 =>
          ∃ (x6a : Option Addr), ∃ (x6l : Nat), ∃ (x6c : Nat), ∃ (x7 : Int), r4 = .tuple #[.slice x6a x6l x6c, .int .i64 x7] ∧
          LoopH (fun again1 (s2 : Int × Int) h_6 =>
            (bif decide ((s2.2 : Int) < (ll : Int)) then
              (bif decide ((s2.2 : Int) < 20) then
                IdxA la ll s2.2 1 fun a2 =>
                Ld h_6 a2 fun v2 => DS v2 fun x8 =>
                (bif decide (((IntKind.wrap .i64 ((IntKind.wrap .i64 (s2.1 + 8)) + ((x8 : ByteArray).size : Int))) : Int) > (Int.tmod (IntKind.wrap .i64 (cut : Int)) (IntKind.wrap .i64 ((bl : Int) + 1)))) then
                  (bif ((x6l : Int) : Int) == s2.2 then
                    Good h0 (.bool ((x7 : Int) == s2.1)) h_6
                  else
                    Good h0 (.bool false) h_6)
                else
                  (bif decide ((s2.2 : Int) ≥ (x6l : Int)) then
                    Good h0 (.bool false) h_6
                  else
                    IdxA x6a x6l s2.2 1 fun a3 =>
                    Ld h_6 a3 fun v3 => DSl v3 fun x9a x9l x9c =>
                    ∃ bs0 : ByteArray, BytesIn h_6 x9a x9l bs0 ∧
                    IdxA la ll s2.2 1 fun a4 =>
                    Ld h_6 a4 fun v4 => DS v4 fun x10 =>
                    (bif !strEq bs0 x10 then
                      Good h0 (.bool false) h_6
                    else
                      IdxA la ll s2.2 1 fun a5 =>
                      Ld h_6 a5 fun v5 => DS v5 fun x11 =>
                      again1 (IntKind.wrap .i64 ((IntKind.wrap .i64 (s2.1 + 8)) + ((x11 : ByteArray).size : Int)), IntKind.wrap .i64 (s2.2 + 1)) h_6)))
              else
                (bif (x7 : Int) == s2.1 then
                  Good h0 (.bool (((x6l : Int) : Int) == (if (20 : Int) < (ll : Int) then 20 else (ll : Int)))) h_6
                else
                  Good h0 (.bool false) h_6))
            else
              (bif (x7 : Int) == s2.1 then
                Good h0 (.bool (((x6l : Int) : Int) == (if (20 : Int) < (ll : Int) then 20 else (ll : Int)))) h_6
              else
                Good h0 (.bool false) h_6))) (0, 0) h_5 := by
  obtain ⟨hbl, hlc, hcm⟩ := ownS_len H
  rw [List.length_map, Nat.mul_one] at hbl
  have hbm : bc ≤ 9223372036854775807 := hcm
  have hx8 : ∀ x ∈ xs, B8 x := by
    intro x hx
    rw [hxs] at hx
    obtain ⟨s, _, rfl⟩ := List.mem_map.1 hx
    exact sb_B8 s
  have hxl : xs.length = min 20 ll := by rw [hxs, List.length_map, List.length_take, hll]
  have hB8 := packs_B8 hx8
  have hreach := reach_bound h300
  rw [reach_packs] at hbl
  have hbl2 : bl ≤ 6160 := by omega
  have w1 : IntKind.wrap .i64 ((bl : Int) + 1) = ((bl + 1 : Nat) : Int) := wrap64_succ (by omega)
  have w2 : Int.tmod (IntKind.wrap .i64 (cut : Int)) ((bl + 1 : Nat) : Int) = ((cut % (bl + 1) : Nat) : Int) := by
    rw [wrap64_nat (by omega)]
    exact tmod_nat _ _
  have hk : cut % (bl + 1) < bl + 1 := Nat.mod_lt _ (by omega)
  rw [w1, w2]
  generalize cut % (bl + 1) = k at hk
  refine ⟨by omega, SlV_nat (lo := 0) (Nat.zero_le _) (by omega) (Nat.le_refl _) ?_⟩
  rw [Nat.sub_zero]
  have hR : ∀ h', sat (ownS 5 1 ba bl bc (((xs.map packN).flatten).map nv) :: [old h0]) h' → RdC h' (subA ba 0 bc 1) ((((xs.map packN).flatten).take k).map nv) := by
    intro h' H'
    have := (ownS_read H').sub 0 k bc (by omega)
    rw [List.drop_zero, ← List.map_take] at this
    exact this
  refine (F24_spec H hR (hB8.take k) (by rw [List.length_take, reach_packs]; omega) (by omega)).mono ?_
  rintro v h5 ⟨a5, c5, rfl, H5⟩
  refine ⟨_, _, _, _, rfl, ?_⟩
  have hG : Good h0 (.bool true) h5 := good_of H5.drop.drop
  have hBB := rdBB_of H5
  have hrl5 := hrl.old H5.drop.drop
  have hg8 := scanN_B8 _ _ (Nat.le_refl _) (hB8.take k)
  generalize hgot : scanN (((xs.map packN).flatten).take k) = got at *
  refine ⟨fun st h6 => h6 = h5 ∧ ∃ i : Nat, st = (((reach (xs.take i) : Nat) : Int), (i : Int)) ∧ i ≤ xs.length ∧ reach (xs.take i) ≤ k ∧ got = xs.take i ++ scanN ((((xs.drop i).map packN).flatten).take (k - reach (xs.take i))),
    fun st _ => (20 - st.2).toNat, ⟨rfl, 0, rfl, Nat.zero_le _, Nat.zero_le _, by rw [← hgot]; rfl⟩, ?_⟩
  rintro st h6 ⟨rfl, i, rfl, hi, hik, hgi⟩
  have hend : i = xs.length → (bif (((reach got : Nat) : Int)) == ((reach (xs.take i) : Nat) : Int) then
                  Good h0 (.bool ((((got.length : Nat) : Int) : Int) == (if (20 : Int) < (ll : Int) then 20 else (ll : Int)))) h6
                else
                  Good h0 (.bool false) h6) := by
    intro e
    have hn : got = xs := by
      rw [hgi, e, List.drop_length, List.take_length]
      simp [Frame.scanN_nil]
    rw [hn, e, List.take_length, beq_self_eq_true, cond_true, hxl]
    have : (((min 20 ll : Nat) : Int) == (if (20 : Int) < (ll : Int) then 20 else (ll : Int))) = true := by
      rw [beq_iff_eq]
      split <;> omega
    rw [this]
    exact hG
  by_cases h1 : i < ll
  · by_cases h2 : i < 20
    · rw [decide_eq_true (show ((i : Int) < (ll : Int)) by omega), cond_true, decide_eq_true (show ((i : Int) < 20) by omega), cond_true]
      obtain ⟨s, hs⟩ : ∃ s, ss[i]? = some s := ⟨_, List.getElem?_eq_getElem (by omega)⟩
      have hx : xs[i]? = some (sb s) := by
        rw [hxs, List.getElem?_map, List.getElem?_take, if_pos h2, hs]
        rfl
      have hm := List.mem_of_getElem? hx
      have hs3 := h300 _ hm
      have hdrop : xs.drop i = sb s :: xs.drop (i + 1) := by
        have hlt := (List.getElem?_eq_some_iff.1 hx).1
        rw [List.drop_eq_getElem_cons hlt]
        rw [List.getElem?_eq_getElem hlt] at hx
        simp only [Option.some.injEq] at hx
        rw [hx]
      rw [hdrop, List.map_cons, List.flatten_cons, scanN_cut (hx8 _ hm) (by omega)] at hgi
      refine strRead hrl5 hll hs fun b hb => ⟨_, hb, ?_⟩
      show DS (.string s) _
      rw [DS_string]
      have hsl := sb_length s
      simp only []
      have w3 : IntKind.wrap .i64 (IntKind.wrap .i64 (((reach (xs.take i) : Nat) : Int) + 8) + (s.size : Int)) = ((reach (xs.take (i + 1)) : Nat) : Int) := by
        rw [reach_take_succ hx, IntWalk.i64_in (((reach (xs.take i) : Nat) : Int) + 8) (by omega), IntWalk.i64_in _ (by omega)]
        omega
      rw [w3]
      have hrs := reach_take_succ hx
      by_cases hcutoff : reach (xs.take (i + 1)) > k
      · rw [decide_eq_true (show (((reach (xs.take (i + 1)) : Nat) : Int) > (k : Int)) by omega), cond_true]
        rw [if_neg (by omega), List.append_nil] at hgi
        have hlen : got.length = i := by rw [hgi, List.length_take]; omega
        rw [hlen, hgi, beq_self_eq_true, cond_true, beq_self_eq_true]
        exact hG
      · rw [decide_eq_false (show ¬ (((reach (xs.take (i + 1)) : Nat) : Int) > (k : Int)) by omega), cond_false]
        rw [if_pos (by omega)] at hgi
        have hlt : i < got.length := by rw [hgi, List.length_append, List.length_take, List.length_cons]; omega
        have hgx : got[i]? = some (sb s) := by
          rw [hgi, List.getElem?_append_right (by rw [List.length_take]; omega), List.length_take, Nat.min_eq_left (by omega), Nat.sub_self]
          rfl
        rw [decide_eq_false (show ¬ ((i : Int) ≥ ((got.length : Nat) : Int)) by omega), cond_false]
        refine idxBB hBB rfl hgx fun b1 a' l' c' hc hr hxl2 => ⟨_, hc, ?_⟩
        show DSl (.slice a' l' c') _
        rw [DSl_slice]
        refine ⟨ofN (sb s), bytesIn_of hr hxl2 (sb_B8 s), ?_⟩
        refine strRead hrl5 hll hs fun b hb => ⟨_, hb, ?_⟩
        show DS (.string s) _
        rw [DS_string, ofN_sb, show strEq s s = true from by rw [strEq_eq]; simp, Bool.not_true, cond_false]
        refine strRead hrl5 hll hs fun b hb => ⟨_, hb, ?_⟩
        show DS (.string s) _
        rw [DS_string, w3, wrap64_succ (by omega)]
        refine ⟨⟨trivial, i + 1, rfl, by omega, by omega, ?_⟩, ?_⟩
        · rw [hrs, Nat.sub_add_eq, hgi, List.take_add_one, hx, List.append_assoc]
          rfl
        · show (20 - ((i + 1 : Nat) : Int)).toNat < (20 - (i : Int)).toNat
          omega
    · rw [decide_eq_true (show ((i : Int) < (ll : Int)) by omega), cond_true, decide_eq_false (show ¬ ((i : Int) < 20) by omega), cond_false]
      exact hend (by omega)
  · rw [decide_eq_false (show ¬ ((i : Int) < (ll : Int)) by omega), cond_false]
    exact hend (by omega)

theorem FrameCut_law (la : Option Addr) (ll lc cut : Nat) (ss : List ByteArray) (hcut : cut < 65536) (h : Heap) (hrl : RdC h la (ss.map Value.string)) (hll : ss.length = ll) :
    CallsH Try.prog 10 [.slice la ll lc, .int .u16 (cut : Int)] h (Good h) := by
  apply F10_ok
  unfold F10
  refine (F19_spec (sat_old h)).mono ?_
  rintro v h1 ⟨rfl, H1⟩
  rw [DB_bool]
  simp only [Bool.not_true, cond_false]
  refine ⟨fun st h2 => ∃ (i : Nat) (a : Option Addr) (l c : Nat), st = (⟨a, l, c⟩, (i : Int)) ∧ i ≤ min 20 ll ∧ (∀ s ∈ ss.take i, s.size ≤ 300) ∧ sat (ownS 5 1 a l c (((((ss.take i).map sb).map packN).flatten).map nv) :: [old h]) h2,
    fun st _ => (20 - st.2).toNat, ⟨0, none, 0, 0, rfl, Nat.zero_le _, by simp, ownS_nil 5 1 H1⟩, ?_⟩
  rintro st h2 ⟨i, a, l, c, rfl, hi, h300, H2⟩
  have hrl2 := hrl.old H2.drop
  have exit : i = min 20 ll → ∀ x ∈ (ss.take 20).map sb, x.length ≤ 300 := by
    intro e x hx
    obtain ⟨s, hs, rfl⟩ := List.mem_map.1 hx
    rw [sb_length]
    refine h300 s ?_
    rw [e, Nat.min_comm, ← hll, List.take_eq_take_min, Nat.min_comm] at *
    simpa [Nat.min_comm] using hs
  have etake : i = min 20 ll → ss.take i = ss.take 20 := by
    intro e
    rw [e, ← hll]
    by_cases h20 : ss.length ≤ 20
    · rw [Nat.min_eq_right h20, List.take_length, List.take_of_length_le h20]
    · rw [Nat.min_eq_left (by omega)]
  by_cases h1 : i < ll
  · by_cases h20 : i < 20
    · simp only []
      rw [decide_eq_true (show ((i : Int) < (ll : Int)) by omega), cond_true, decide_eq_true (show ((i : Int) < 20) by omega), cond_true]
      obtain ⟨s, hs⟩ : ∃ s, ss[i]? = some s := ⟨_, List.getElem?_eq_getElem (by omega)⟩
      refine strRead hrl2 hll hs fun b hb => ⟨_, hb, ?_⟩
      show DS (.string s) _
      rw [DS_string]
      by_cases hbig : s.size > 300
      · rw [decide_eq_true (show ((s.size : Int) > 300) by omega), cond_true]
        exact good_of H2.drop
      · rw [decide_eq_false (show ¬ ((s.size : Int) > 300) by omega), cond_false]
        refine strRead hrl2 hll hs fun b hb => ⟨_, hb, ?_⟩
        show DS (.string s) _
        rw [DS_string]
        refine bytesOfB t9 t26 t5 (show s.size ≤ maxLen by unfold maxLen; omega) H2 fun b3 c3 h3 H3 => ?_
        rw [DSl_slice]
        refine (F20_spec H3 (fun h' H => ownS_read H) (sb_B8 s) (sb_length s) (by omega)).mono ?_
        rintro v h4 ⟨b4, c4, rfl, H4⟩
        refine ⟨_, _, _, _, rfl, ?_⟩
        rw [show ((0 : Int) != 0) = false from rfl, cond_false]
        have hlen := (ownS_len H2).1
        have hr3 : ∀ x ∈ (ss.take i).map sb, x.length ≤ 300 := fun x hx => by
          obtain ⟨s2, hs2, rfl⟩ := List.mem_map.1 hx
          rw [sb_length]
          exact h300 s2 hs2
        have hrb := reach_bound hr3
        rw [List.length_map, reach_packs, Nat.mul_one] at hlen
        rw [List.length_map, List.length_take] at hrb
        refine appB t26 s26 i5 (H4.mv 2) (srcB (ownS_read H4) (by rw [packN_length, sb_length])) (by omega) fun a5 c5 h5 _ H5 => ?_
        rw [DSl_slice, wrap64_succ (by omega)]
        refine ⟨⟨i + 1, a5, l + (8 + s.size), c5, rfl, by omega, ?_, ?_⟩, ?_⟩
        · intro s2 hs2
          rw [List.take_add_one, hs] at hs2
          rcases List.mem_append.1 hs2 with hs2 | hs2
          · exact h300 s2 hs2
          · simp only [Option.toList_some, List.mem_singleton] at hs2
            subst hs2
            omega
        · rw [List.take_add_one, hs]
          simp only [Option.toList_some, List.map_append, List.flatten_append, List.map_cons, List.map_nil, List.flatten_cons, List.flatten_nil, List.append_nil]
          have := ((H5.mv 1).drop.mv 1).drop
          rw [List.map_append] at this
          exact this
        · show (20 - ((i + 1 : Nat) : Int)).toNat < (20 - (i : Int)).toNat
          omega
    · simp only []
      rw [decide_eq_true (show ((i : Int) < (ll : Int)) by omega), cond_true, decide_eq_false (show ¬ ((i : Int) < 20) by omega), cond_false]
      have e : i = min 20 ll := by omega
      rw [etake e] at H2
      exact cut_exit (lc := lc) hcut hrl hll _ rfl (exit e) H2
  · simp only []
    rw [decide_eq_false (show ¬ ((i : Int) < (ll : Int)) by omega), cond_false]
    have e : i = min 20 ll := by omega
    rw [etake e] at H2
    exact cut_exit (lc := lc) hcut hrl hll _ rfl (exit e) H2

/-! ### joined -/
theorem bb_eq {h : Heap} {a b : Option Addr} {la lb i j : Nat} {xs ys : List (List Nat)} {x : List Nat} (hx : xs[i]? = some x) (hy : ys[j]? = some x) (h8 : B8 x) : True := trivial
theorem join_loops {ss : List ByteArray} {la : Option Addr} {ll : Nat} {h0 hh : Heap} (hrl : RdC hh la (ss.map Value.string)) (hll : ss.length = ll) (hl60 : ll ≤ 60)
    {more : List (List Nat)} (h8 : ∀ x ∈ more, B8 x) {x7a x11a : Option Addr} {x7l x11l : Nat} (hm : RdBB hh x7a more) (hml : more.length = x7l) (hg : RdBB hh x11a (ss.map sb ++ more)) (hgl : (ss.map sb ++ more).length = x11l) (hb : x7l ≤ 1000000) (hG : Good h0 (.bool true) hh) :
    LoopH (fun again1 (s1 : Int) h_11 =>
                      (bif decide ((s1 : Int) < (ll : Int)) then
                        IdxA x11a x11l s1 1 fun a2 =>
                        Ld h_11 a2 fun v2 => DSl v2 fun x13a x13l x13c =>
                        ∃ bs0 : ByteArray, BytesIn h_11 x13a x13l bs0 ∧
                        IdxA la ll s1 1 fun a3 =>
                        Ld h_11 a3 fun v3 => DS v3 fun x14 =>
                        (bif !strEq bs0 x14 then
                          Good h0 (.bool false) h_11
                        else
                          again1 (IntKind.wrap .i64 (s1 + 1)) h_11)
                      else
                        LoopH (fun again2 (s2 : Int) h_12 =>
                          (bif decide ((s2 : Int) < (x7l : Int)) then
                            IdxA x11a x11l (IntKind.wrap .i64 ((ll : Int) + s2)) 1 fun a4 =>
                            Ld h_12 a4 fun v4 => DSl v4 fun x15a x15l x15c =>
                            ∃ bs1 : ByteArray, BytesIn h_12 x15a x15l bs1 ∧
                            IdxA x7a x7l s2 1 fun a5 =>
                            Ld h_12 a5 fun v5 => DSl v5 fun x16a x16l x16c =>
                            ∃ bs2 : ByteArray, BytesIn h_12 x16a x16l bs2 ∧
                            (bif !strEq bs1 bs2 then
                              Good h0 (.bool false) h_12
                            else
                              again2 (IntKind.wrap .i64 (s2 + 1)) h_12)
                          else
                            Good h0 (.bool true) h_12)) 0 h_11)) 0 hh := by
  refine ⟨fun st h1 => h1 = hh ∧ ∃ i : Nat, st = (i : Int) ∧ i ≤ ll, fun st _ => ((ll : Int) - st).toNat, ⟨rfl, 0, rfl, Nat.zero_le _⟩, ?_⟩
  rintro st h1 ⟨rfl, i, rfl, hi⟩
  by_cases hlt : i < ll
  · rw [decide_eq_true (show ((i : Int) < (ll : Int)) by omega), cond_true]
    obtain ⟨s, hs⟩ : ∃ s, ss[i]? = some s := ⟨_, List.getElem?_eq_getElem (by omega)⟩
    have hx : (ss.map sb ++ more)[i]? = some (sb s) := by
      rw [List.getElem?_append_left (by rw [List.length_map]; omega), List.getElem?_map, hs]
      rfl
    refine idxBB hg hgl hx fun b1 a' l' c' hc hr hxl => ⟨_, hc, ?_⟩
    show DSl (.slice a' l' c') _
    rw [DSl_slice]
    refine ⟨ofN (sb s), bytesIn_of hr hxl (sb_B8 s), ?_⟩
    refine strRead hrl hll hs fun b hb => ⟨_, hb, ?_⟩
    show DS (.string s) _
    rw [DS_string, ofN_sb, show strEq s s = true from by rw [strEq_eq]; simp, Bool.not_true, cond_false, wrap64_succ (by omega)]
    refine ⟨⟨rfl, i + 1, rfl, by omega⟩, ?_⟩
    show ((ll : Int) - ((i + 1 : Nat) : Int)).toNat < ((ll : Int) - (i : Int)).toNat
    omega
  · rw [decide_eq_false (show ¬ ((i : Int) < (ll : Int)) by omega), cond_false]
    refine ⟨fun st h2 => h2 = h1 ∧ ∃ j : Nat, st = (j : Int) ∧ j ≤ x7l, fun st _ => ((x7l : Int) - st).toNat, ⟨rfl, 0, rfl, Nat.zero_le _⟩, ?_⟩
    rintro st h2 ⟨rfl, j, rfl, hj⟩
    by_cases hjl : j < x7l
    · rw [decide_eq_true (show ((j : Int) < (x7l : Int)) by omega), cond_true]
      obtain ⟨y, hy⟩ : ∃ y, more[j]? = some y := ⟨_, List.getElem?_eq_getElem (by omega)⟩
      have hx : (ss.map sb ++ more)[ll + j]? = some y := by
        rw [List.getElem?_append_right (by rw [List.length_map]; omega), List.length_map, hll, Nat.add_sub_cancel_left, hy]
      have w : IntKind.wrap .i64 ((ll : Int) + (j : Int)) = ((ll + j : Nat) : Int) := by rw [IntWalk.i64_in _ (by omega)]; omega
      rw [w]
      refine idxBB hg hgl hx fun b1 a' l' c' hc hr hxl => ⟨_, hc, ?_⟩
      show DSl (.slice a' l' c') _
      rw [DSl_slice]
      refine ⟨ofN y, bytesIn_of hr hxl (h8 y (List.mem_of_getElem? hy)), ?_⟩
      refine idxBB hm hml hy fun b1 a' l' c' hc hr hxl => ⟨_, hc, ?_⟩
      show DSl (.slice a' l' c') _
      rw [DSl_slice]
      refine ⟨ofN y, bytesIn_of hr hxl (h8 y (List.mem_of_getElem? hy)), ?_⟩
      rw [show strEq (ofN y) (ofN y) = true from by rw [strEq_eq]; simp, Bool.not_true, cond_false, wrap64_succ (by omega)]
      refine ⟨⟨rfl, j + 1, rfl, by omega⟩, ?_⟩
      show ((x7l : Int) - ((j + 1 : Nat) : Int)).toNat < ((x7l : Int) - (j : Int)).toNat
      omega
    · rw [decide_eq_false (show ¬ ((j : Int) < (x7l : Int)) by omega), cond_false]
      exact hG

theorem FrameJoins_law (la : Option Addr) (ll lc : Nat) (rest : ByteArray) (ss : List ByteArray) (h : Heap) (hrl : RdC h la (ss.map Value.string)) (hll : ss.length = ll) :
    CallsH Try.prog 12 [.slice la ll lc, .string rest] h (Good h) := by
  apply F12_ok
  unfold F12
  refine (F19_spec (sat_old h)).mono ?_
  rintro v h1 ⟨rfl, H1⟩
  rw [DB_bool]
  cases h60 : decide ((ll : Int) > 60) with
  | true => exact good_of H1
  | false =>
    have hl60 : ll ≤ 60 := by have := of_decide_eq_false h60; omega
    cases hrz : decide ((rest.size : Int) > 4000) with
    | true => exact good_of H1
    | false =>
      have hr4 : rest.size ≤ 4000 := by have := of_decide_eq_false hrz; omega
      simp only [Bool.not_true, cond_false]
      refine ⟨fun st h2 => ∃ (i : Nat) (a : Option Addr) (l c : Nat), st = (⟨a, l, c⟩, (i : Int)) ∧ i ≤ ll ∧ (∀ s ∈ ss.take i, s.size ≤ 300) ∧ sat (ownS 5 1 a l c (((((ss.take i).map sb).map packN).flatten).map nv) :: [old h]) h2,
        fun st _ => ((ll : Int) - st.2).toNat, ⟨0, none, 0, 0, rfl, Nat.zero_le _, by simp, ownS_nil 5 1 H1⟩, ?_⟩
      rintro st h2 ⟨i, a, l, c, rfl, hi, h300, H2⟩
      have hrl2 := hrl.old H2.drop
      have hlen := (ownS_len H2).1
      have hr3 : ∀ x ∈ (ss.take i).map sb, x.length ≤ 300 := fun x hx => by
        obtain ⟨s2, hs2, rfl⟩ := List.mem_map.1 hx
        rw [sb_length]
        exact h300 s2 hs2
      have hrb := reach_bound hr3
      rw [List.length_map, reach_packs, Nat.mul_one] at hlen
      rw [List.length_map, List.length_take] at hrb
      by_cases h1 : i < ll
      · simp only []
        rw [decide_eq_true (show ((i : Int) < (ll : Int)) by omega), cond_true]
        obtain ⟨s, hs⟩ : ∃ s, ss[i]? = some s := ⟨_, List.getElem?_eq_getElem (by omega)⟩
        refine strRead hrl2 hll hs fun b hb => ⟨_, hb, ?_⟩
        show DS (.string s) _
        rw [DS_string]
        by_cases hbig : s.size > 300
        · rw [decide_eq_true (show ((s.size : Int) > 300) by omega), cond_true]
          exact good_of H2.drop
        · rw [decide_eq_false (show ¬ ((s.size : Int) > 300) by omega), cond_false]
          refine strRead hrl2 hll hs fun b hb => ⟨_, hb, ?_⟩
          show DS (.string s) _
          rw [DS_string]
          refine bytesOfB t9 t26 t5 (show s.size ≤ maxLen by unfold maxLen; omega) H2 fun b3 c3 h3 H3 => ?_
          rw [DSl_slice]
          refine (F20_spec H3 (fun h' H => ownS_read H) (sb_B8 s) (sb_length s) (by omega)).mono ?_
          rintro v h4 ⟨b4, c4, rfl, H4⟩
          refine ⟨_, _, _, _, rfl, ?_⟩
          rw [show ((0 : Int) != 0) = false from rfl, cond_false]
          refine appB t26 s26 i5 (H4.mv 2) (srcB (ownS_read H4) (by rw [packN_length, sb_length])) (by omega) fun a5 c5 h5 _ H5 => ?_
          rw [DSl_slice, wrap64_succ (by omega)]
          refine ⟨⟨i + 1, a5, l + (8 + s.size), c5, rfl, by omega, ?_, ?_⟩, ?_⟩
          · intro s2 hs2
            rw [List.take_add_one, hs] at hs2
            rcases List.mem_append.1 hs2 with hs2 | hs2
            · exact h300 s2 hs2
            · simp only [Option.toList_some, List.mem_singleton] at hs2
              subst hs2
              omega
          · rw [List.take_add_one, hs]
            simp only [Option.toList_some, List.map_append, List.flatten_append, List.map_cons, List.map_nil, List.flatten_cons, List.flatten_nil, List.append_nil]
            have := ((H5.mv 1).drop.mv 1).drop
            rw [List.map_append] at this
            exact this
          · show ((ll : Int) - ((i + 1 : Nat) : Int)).toNat < ((ll : Int) - (i : Int)).toNat
            omega
      · simp only []
        rw [decide_eq_false (show ¬ ((i : Int) < (ll : Int)) by omega), cond_false]
        have e : i = ll := by omega
        subst e
        rw [List.take_of_length_le (by omega)] at H2 hlen h300 hr3 hrb
        have hx8 : ∀ x ∈ ss.map sb, B8 x := by
          intro x hx
          obtain ⟨s, _, rfl⟩ := List.mem_map.1 hx
          exact sb_B8 s
        have hB8 := packs_B8 hx8
        refine bytesOfB t9 t26 t5 (show rest.size ≤ maxLen by unfold maxLen; omega) H2 fun b6 c6 h6 H6 => ?_
        rw [DSl_slice]
        refine (F24_spec H6 (fun h' H => ownS_read H) (sb_B8 rest) (sb_length rest) (by omega)).mono ?_
        rintro v h7 ⟨a7, c7, rfl, H7⟩
        refine ⟨_, _, _, _, rfl, ?_⟩
        refine Al_sat H7 fun b8 h8 H8 => ?_
        have H8b : sat (ownS 5 1 (some ⟨b8, 0, none⟩) 0 0 (([] : List Nat).map nv) :: _) h8 := ownS_mk H8 (nofz_zero _) (Nat.le_refl _) (Nat.zero_le _) rfl rfl
        refine appB t26 s26 i5 H8b (srcB (ownS_read (H8b.mv 3)) (by rw [reach_packs]; exact hlen.symm ▸ rfl)) (by omega) fun a9 c9 h9 _ H9 => ?_
        rw [DSl_slice]
        refine appB t26 s9 i5 H9 (srcS rest) (by omega) fun a10 c10 h10 _ H10 => ?_
        rw [DSl_slice]
        rw [List.nil_append] at H10
        refine (F24_spec H10 (fun h' H => ownS_read H) (hB8.append (sb_B8 rest)) (by rw [List.length_append, reach_packs, sb_length]; omega) (by omega)).mono ?_
        rintro v h11 ⟨a11, c11, rfl, H11⟩
        refine ⟨_, _, _, _, rfl, ?_⟩
        have hsc : scanN (((ss.map sb).map packN).flatten ++ sb rest) = ss.map sb ++ scanN (sb rest) := scanN_packs _ _ fun x hx => ⟨hx8 x hx, by have := hr3 x hx; omega⟩
        rw [hsc] at H11 ⊢
        have hmr := scanN_reach _ (sb rest) (Nat.le_refl _) (sb_B8 rest)
        have hmc := scan_count (sb rest) (sb_B8 rest) (scanN (sb rest)).length (scanN (sb rest)) rfl hmr
        rw [sb_length] at hmr hmc
        have w : IntKind.wrap .i64 ((i : Int) + ((scanN (sb rest)).length : Int)) = (((ss.map sb ++ scanN (sb rest)).length : Nat) : Int) := by
          rw [List.length_append, List.length_map, IntWalk.i64_in _ (by omega)]
          omega
        rw [w, bneN, decide_eq_false (by simp), cond_false, reach_append]
        rw [decide_eq_false (show ¬ (((reach (ss.map sb) + reach (scanN (sb rest)) : Nat) : Int) < (l : Int)) by omega), cond_false]
        have hG : Good h (.bool true) h11 := good_of (((((H11.drop).drop).drop).drop).drop)
        have hjl := join_loops (la := la) (ll := i) (h0 := h) (hrl.old (((((H11.drop).drop).drop).drop).drop)) hll hl60 (scanN_B8 _ _ (Nat.le_refl _) (sb_B8 rest)) (rdBB_of (H11.mv 2)) rfl (rdBB_of H11) rfl (by omega) hG
        cases hz : (((scanN (sb rest)).length : Nat) : Int) == 0 with
        | false => exact hjl
        | true =>
          rw [cond_true]
          have hnil : scanN (sb rest) = [] := by
            rw [beq_iff_eq] at hz
            exact List.eq_nil_of_length_eq_zero (by omega)
          have : (((reach (ss.map sb) + reach (scanN (sb rest)) : Nat) : Int) != (l : Int)) = false := by
            rw [hnil, bneN]
            rw [decide_eq_false]
            have : reach ([] : List (List Nat)) = 0 := rfl
            omega
          rw [this, cond_false]
          exact hjl

end Go.Proofs.Ytpblcdgglbhdoaa
