/- The law TableInts (seat T). -/
import Derived.Test.YtfpdejkcjijmmaaQiTbM
import Derived.Test.YtfpdejkcjijmmaaQiTbAU
namespace Go.Proofs.Ytfpdejkcjijmmaa
open Go Go.RowKit
open Tb (T get set del Up Has)
open AF (ltB strLt_irrefl strLt_trans strLt_total)
set_option linter.unusedVariables false
set_option linter.unusedSimpArgs false

/-- Keys of one byte below nine. -/
def One (k : ByteArray) : Prop := ∃ n : Nat, n < 9 ∧ k = ofN [n]
abbrev Ones {V : Type} (A : T V) : Prop := ∀ p ∈ A, One p.1
theorem Ones.set {V : Type} {A : T V} (H : Ones A) {n : Nat} (hn : n < 9) (v : V) : Ones (set (ofN [n]) v A) := fun p hp => by
  rcases Tb.mem_set hp with rfl | hp
  · exact ⟨n, hn, rfl⟩
  · exact H p hp
theorem inc_len : ∀ (l : List Nat) (k N : Nat), l.Pairwise (· < ·) → (∀ x ∈ l, k ≤ x ∧ x < N) → l.length ≤ N - k
  | [], _, _, _, _ => Nat.zero_le _
  | x :: l, k, N, hp, hx => by
    rw [List.pairwise_cons] at hp
    have h1 := hx x (by simp)
    have := inc_len l (x + 1) N hp.2 fun y hy => ⟨hp.1 y hy, (hx y (by simp [hy])).2⟩
    rw [List.length_cons]
    omega
def fst8 (k : ByteArray) : Nat := (k.data.toList.headD 0).toNat
theorem fst8_of {n : Nat} (hn : n < 9) : fst8 (ofN [n]) = n := by
  have : ∀ n, n < 9 → fst8 (ofN [n]) = n := by decide
  exact this n hn
theorem one_lt {n m : Nat} (hn : n < 9) (hm : m < 9) (h : ltB (ofN [n]) (ofN [m]) = true) : n < m := by
  have : ∀ n, n < 9 → ∀ m, m < 9 → ltB (ofN [n]) (ofN [m]) = true → n < m := by decide
  exact this n hn m hm h
theorem Ones.len {V : Type} {A : T V} (U : Up A) (H : Ones A) : A.length ≤ 9 := by
  have := inc_len (A.map fun p => fst8 p.1) 0 9 ?_ ?_
  · simpa using this
  · rw [List.pairwise_map]
    refine (List.Pairwise.and_mem.1 U).imp ?_
    rintro p q ⟨hp, hq, hlt⟩
    obtain ⟨n, hn, e1⟩ := H p hp
    obtain ⟨m, hm, e2⟩ := H q hq
    rw [e1, e2] at hlt ⊢
    rw [fst8_of hn, fst8_of hm]
    exact one_lt hn hm hlt
  · intro x hx
    obtain ⟨p, hp, rfl⟩ := List.mem_map.1 hx
    obtain ⟨n, hn, e1⟩ := H p hp
    rw [e1, fst8_of hn]
    exact ⟨Nat.zero_le _, hn⟩
theorem TableInts_law {a b : Option Addr} {la ca lb cb : Nat} {cs ds : List Nat} (h : Heap) (hra' : RdC h a (cs.map nv)) (hla : cs.length = la) (hrb' : RdC h b (ds.map nv)) (hlb : ds.length = lb) (hma : la ≤ 9223372036854775807) (hmb : lb ≤ 9223372036854775807) :
    CallsH Try.prog 7 [.slice a la ca, .slice b lb cb] h (Good h) := by
  have hra : RdC h a (cs.flatMap fun n => [nv n]) := by rw [← List.map_eq_flatMap]; exact hra'
  have hrb : RdC h b (ds.flatMap fun n => [nv n]) := by rw [← List.map_eq_flatMap]; exact hrb'
  apply F7_ok
  unfold F7
  refine (TI.F8_spec (sat_old h)).mono ?_
  rintro v h0 ⟨rfl, H0⟩
  rw [DB_bool, Bool.not_true, cond_false]
  cases decide (IntKind.i64.wrap ((la : Int) + (lb : Int)) > 600) with
  | true => exact good_of H0
  | false =>
  rw [cond_false]
  refine (TU.F27_none H0).mono ?_
  rintro v h1 ⟨bt, rfl, H1⟩
  show DP (.pointer (some ⟨bt, 0, none⟩)) _
  rw [DP_pointer]
  refine (TU.F27_none H1).mono ?_
  rintro v h2 ⟨bu, rfl, H2⟩
  show DP (.pointer (some ⟨bu, 0, none⟩)) _
  rw [DP_pointer]
  refine ⟨fun st hh => ∃ (i : Nat) (A : T TU.VT), st = (i : Int) ∧ i ≤ la ∧ Up A ∧ Ones A ∧ sat (TU.tabP bt A :: TU.tabP bu [] :: [old h]) hh, fun st _ => ((la : Int) - st).toNat, ⟨0, [], rfl, Nat.zero_le _, Up.nil, fun p hp => (by cases hp), H2.mv 1⟩, ?_⟩
  rintro st h3 ⟨i, A, rfl, hi, UA, OA, H3⟩
  by_cases hlt : i < la
  case pos =>
    rw [decide_eq_true (show ((i : Int) < (la : Int)) by omega), cond_true]
    obtain ⟨n, hn⟩ : ∃ n, cs[i]? = some n := ⟨_, List.getElem?_eq_getElem (by omega)⟩
    have hr0 := hra.old (H3.mv 2)
    refine IdxC (f := fun n : Nat => [nv n]) (fun _ => rfl) (by decide) hr0 hla hn fun b1 hb1 hc => ?_
    have hv := hc 0 _ rfl
    rw [addr_add0] at hv
    refine ⟨_, hv, ?_⟩
    show DI .u8 (.int .u8 (n : Int)) _
    rw [DI_int]
    refine ⟨by decide, ?_⟩
    refine IdxC (f := fun n : Nat => [nv n]) (fun _ => rfl) (by decide) hr0 hla hn fun b2 hb2 _ => ?_
    rw [hb1] at hb2
    cases hb2
    refine ⟨_, hv, ?_⟩
    show DI .u8 (.int .u8 (n : Int)) _
    rw [DI_int]
    refine ⟨by decide, ?_⟩
    refine Al_sat H3 fun b3 h4 H4 => ?_
    have hr4 := hra.old (H4.mv (2 + 1))
    refine ⟨rfl, rfl, rfl, ?_, ?_, ⟨by decide, rfl⟩, ?_⟩
    · refine IdxC (f := fun n : Nat => [nv n]) (fun _ => rfl) (by decide) hr4 hla hn fun b4 hb4 _ => ?_
      rw [hb1] at hb4
      cases hb4
      rfl
    · obtain ⟨b4, hb4, _, _, hv4⟩ : IdxA a la (i : Int) 1 fun b => cellAt h4 b = some (nv n) := by
        refine IdxC (f := fun n : Nat => [nv n]) (fun _ => rfl) (by decide) hr4 hla hn fun b5 _ hc5 => ?_
        have := hc5 0 _ rfl
        rwa [addr_add0] at this
      rw [hb1] at hb4
      cases hb4
      refine ⟨_, hv4, ?_⟩
      show DI .u8 (.int .u8 (n : Int)) _
      rw [DI_int]
      rfl
    · refine ⟨ofN [n % 9], bytesIn_of (ns := [n % 9]) (RdCf H4 rfl) rfl (fun m hm => by rw [List.mem_singleton] at hm; omega), ?_⟩
      refine (TU.F28_spec (H4.mv 1)).mono ?_
      rintro v h5 ⟨rfl, H5⟩
      rw [wrap64_succ (by omega)]
      refine ⟨rfl, ⟨i + 1, _, rfl, by omega, UA.set _ _, OA.set (by omega) _, H5.ordT 3 [0, 2]⟩, by show ((la : Int) - ((i + 1 : Nat) : Int)).toNat < ((la : Int) - (i : Int)).toNat; omega⟩
  case neg =>
  rw [decide_eq_false (by omega), cond_false]
  refine ⟨fun st hh => ∃ (i : Nat) (X : T TU.VT), st = (i : Int) ∧ i ≤ lb ∧ Up X ∧ Ones X ∧ sat (TU.tabP bu X :: TU.tabP bt A :: [old h]) hh, fun st _ => ((lb : Int) - st).toNat, ⟨0, [], rfl, Nat.zero_le _, Up.nil, fun p hp => (by cases hp), H3.mv 1⟩, ?_⟩
  rintro st h4 ⟨i, B, rfl, hi, UB, OB, H4⟩
  by_cases hlt : i < lb
  case pos =>
    rw [decide_eq_true (show ((i : Int) < (lb : Int)) by omega), cond_true]
    obtain ⟨n, hn⟩ : ∃ n, ds[i]? = some n := ⟨_, List.getElem?_eq_getElem (by omega)⟩
    have hr0 := hrb.old (H4.mv 2)
    refine IdxC (f := fun n : Nat => [nv n]) (fun _ => rfl) (by decide) hr0 hlb hn fun b1 hb1 hc => ?_
    have hv := hc 0 _ rfl
    rw [addr_add0] at hv
    refine ⟨_, hv, ?_⟩
    show DI .u8 (.int .u8 (n : Int)) _
    rw [DI_int]
    refine ⟨by decide, ?_⟩
    refine IdxC (f := fun n : Nat => [nv n]) (fun _ => rfl) (by decide) hr0 hlb hn fun b2 hb2 _ => ?_
    rw [hb1] at hb2
    cases hb2
    refine ⟨_, hv, ?_⟩
    show DI .u8 (.int .u8 (n : Int)) _
    rw [DI_int]
    refine ⟨by decide, ?_⟩
    refine Al_sat H4 fun b3 h5 H5 => ?_
    have hr4 := hrb.old (H5.mv (2 + 1))
    refine ⟨rfl, rfl, rfl, ?_, ?_, ⟨by decide, rfl⟩, ?_⟩
    · refine IdxC (f := fun n : Nat => [nv n]) (fun _ => rfl) (by decide) hr4 hlb hn fun b4 hb4 _ => ?_
      rw [hb1] at hb4
      cases hb4
      rfl
    · obtain ⟨b4, hb4, _, _, hv4⟩ : IdxA b lb (i : Int) 1 fun b => cellAt h5 b = some (nv n) := by
        refine IdxC (f := fun n : Nat => [nv n]) (fun _ => rfl) (by decide) hr4 hlb hn fun b5 _ hc5 => ?_
        have := hc5 0 _ rfl
        rwa [addr_add0] at this
      rw [hb1] at hb4
      cases hb4
      refine ⟨_, hv4, ?_⟩
      show DI .u8 (.int .u8 (n : Int)) _
      rw [DI_int]
      rfl
    · refine ⟨ofN [n % 9], bytesIn_of (ns := [n % 9]) (RdCf H5 rfl) rfl (fun m hm => by rw [List.mem_singleton] at hm; omega), ?_⟩
      refine (TU.F28_spec (H5.mv 1)).mono ?_
      rintro v h6 ⟨rfl, H6⟩
      rw [wrap64_succ (by omega)]
      refine ⟨rfl, ⟨i + 1, _, rfl, by omega, UB.set _ _, OB.set (by omega) _, H6.ordT 3 [0, 2]⟩, by show ((lb : Int) - ((i + 1 : Nat) : Int)).toNat < ((lb : Int) - (i : Int)).toNat; omega⟩
  case neg =>
  rw [decide_eq_false (by omega), cond_false]
  -- tabP bu B, tabP bt A, old
  have hA := OA.len UA
  have hB := OB.len UB
  refine (TU.F30_spec (by omega) (by omega) (TU.tabZ_some ((TU.tabZ_some H4).mv 1))).mono ?_
  rintro v h5 ⟨sa, n, c, d, rfl, hn, D, H5⟩
  rw [DSl_slice]
  have hdl : n < 1099511627776 := by
    have h1 := D.of_len UA UB
    rw [hn] at h1
    omega
  refine (TU.F29_spec (es := d) (fun h' H' => ownS_read H') hn hdl (H5.mv 1)).mono ?_
  rintro v h6 ⟨bx, rfl, H6⟩
  rw [TU.apply_diff UA UB D] at H6
  show DP (.pointer (some ⟨bx, 0, none⟩)) _
  rw [DP_pointer]
  -- tabP bx B, tabZ bt, own, tabZ bu, old
  refine ⟨fun st hh => ∃ i : Nat, st = (i : Int) ∧ i ≤ 9 ∧ sat (TU.tabP bx B :: TU.tabZ (some ⟨bu, 0, none⟩) B :: [old h]) hh, fun st _ => ((9 : Int) - st).toNat, ⟨0, rfl, Nat.zero_le _, H6.ordT 4 [0, 3]⟩, ?_⟩
  rintro st h7 ⟨i, rfl, hi, H7⟩
  by_cases hlt : i < 9
  · rw [decide_eq_true (show ((i : Int) < 9) by omega), cond_true]
    have ew : IntKind.wrap .u8 (i : Int) = (i : Int) := IntWalk.u8_in _ (by omega)
    rw [ew]
    refine Al_sat H7 fun b3 h8 H8 => ?_
    refine ⟨ofN [i], bytesIn_of (ns := [i]) (RdCf H8 rfl) rfl (fun m hm => by rw [List.mem_singleton] at hm; omega), ?_⟩
    refine (TU.F31_spec (key := ofN [i]) (H8.mv 1)).mono ?_
    rintro v h9 ⟨rfl, rfl⟩
    refine ⟨_, _, rfl, ?_⟩
    refine Al_sat H8 fun b4 h10 H10 => ?_
    refine ⟨ofN [i], bytesIn_of (ns := [i]) (RdCf H10 rfl) rfl (fun m hm => by rw [List.mem_singleton] at hm; omega), ?_⟩
    refine (TU.F31_Z (key := ofN [i]) (H10.mv 3)).mono ?_
    rintro v h11 ⟨rfl, rfl⟩
    refine ⟨_, _, rfl, ?_⟩
    rw [show (((get B (ofN [i])).getD TU.vz : Int) != (get B (ofN [i])).getD TU.vz) = false from by simp, cond_false]
    rw [show (!((get B (ofN [i])).isSome == (get B (ofN [i])).isSome)) = false from by simp, cond_false, wrap64_succ (by omega)]
    exact ⟨⟨i + 1, rfl, by omega, H10.drop.drop⟩, by show ((9 : Int) - ((i + 1 : Nat) : Int)).toNat < ((9 : Int) - (i : Int)).toNat; omega⟩
  · rw [decide_eq_false (by omega), cond_false]
    refine (TU.F32_spec H7).mono ?_
    rintro v h8 ⟨rfl, rfl⟩
    rw [DI_int]
    refine (TU.F32_spec (TU.tabZ_some' (H7.mv 1))).mono ?_
    rintro v h9 ⟨rfl, rfl⟩
    rw [DI_int]
    rw [show (((B.length : Nat) : Int) == (B.length : Int)) = true from by simp]
    exact good_of (H7.mv 2)

end Go.Proofs.Ytfpdejkcjijmmaa
