/- The laws of the sum: each returns true, and nothing that was there is written. -/
import Derived.Test.YtpblcdgglbhdoaaCr2
namespace Go.Proofs.Ytpblcdgglbhdoaa
open Go Go.RowKit
set_option linter.unusedVariables false
set_option linter.unusedSimpArgs false
open Crc (T Tn Run More)

theorem strEq_iff (a b : ByteArray) : strEq a b = true ↔ a = b := by
  unfold strEq
  rw [beq_iff_eq]
  constructor
  · intro h
    have : a.data.toList = b.data.toList := by
      have e : ∀ x : ByteArray, x.toList = x.data.toList := fun x => by simp [ByteArray.toList_eq]
      rw [e, e] at h
      exact h
    exact ByteArray.ext (Array.ext' this)
  · rintro rfl; rfl
theorem toList_extract (s : ByteArray) (i j : Nat) : (s.extract i j).data.toList = (s.data.toList.drop i).take (j - i) := by
  rw [ByteArray.data_extract, Array.toList_extract]
theorem size_eq (s : ByteArray) : s.data.toList.length = s.size := rfl
theorem nb_length (s : ByteArray) : (nb s.data.toList).length = s.size := by rw [nb, List.length_map, size_eq]

theorem CrcOf_law (s : ByteArray) (h : Heap) : CallsH Try.prog 3 [.string s] h (Good h) := by
  apply F3_ok
  unfold F3
  refine F13_spec.mono ?_
  rintro v h' ⟨rfl, rfl⟩
  rw [DB_bool]
  cases hsz : decide ((s.size : Int) > 4000) with
  | true => exact good_same _
  | false =>
    have hle : s.size ≤ 4000 := by have := of_decide_eq_false hsz; omega
    simp only [Bool.not_true, cond_false, cond_true]
    refine (F14_spec (b := s) (by omega)).mono ?_
    rintro v h1 ⟨rfl, rfl⟩
    rw [DI_int]
    refine (F15_spec (b := s) (by omega)).mono ?_
    rintro v h2 ⟨rfl, rfl⟩
    rw [DI_int, beq_self_eq_true, cond_true]
    refine bytesOf_sat (by kernel_rfl) (e := 5) (by kernel_rfl) (by kernel_rfl) (show s.size ≤ maxLen by unfold maxLen; omega) (sat_old _) fun b c h3 H => ?_
    rw [DSl_slice]
    rw [bv_nv] at H
    refine (F16_spec (ownS_read H) (nb_lt _) (nb_length s) (by omega)).mono ?_
    rintro v h4 ⟨rfl, rfl⟩
    rw [DI_int, beq_self_eq_true]
    exact ⟨rfl, H.drop⟩

theorem CrcKeeps_law (s : ByteArray) (h : Heap) : CallsH Try.prog 6 [.string s] h (Good h) := by
  apply F6_ok
  unfold F6
  refine F13_spec.mono ?_
  rintro v h' ⟨rfl, rfl⟩
  rw [DB_bool]
  cases hsz : decide ((s.size : Int) > 4000) with
  | true => exact good_same _
  | false =>
    have hle : s.size ≤ 4000 := by have := of_decide_eq_false hsz; omega
    simp only [Bool.not_true, cond_false, cond_true]
    refine bytesOf_sat (by kernel_rfl) (e := 5) (by kernel_rfl) (by kernel_rfl) (show s.size ≤ maxLen by unfold maxLen; omega) (sat_old _) fun b c h3 H => ?_
    rw [DSl_slice]
    have H0 := H
    rw [bv_nv] at H
    refine (F16_spec (ownS_read H) (nb_lt _) (nb_length s) (by omega)).mono ?_
    rintro v h4 ⟨rfl, rfl⟩
    rw [DI_int]
    refine (F18_spec (sum := 7) (by decide) (ownS_read H) (nb_lt _) (nb_length s) (by omega)).mono ?_
    rintro v h5 ⟨rfl, rfl⟩
    rw [DI_int]
    refine ⟨s, ⟨rfl, fun i hi => ?_⟩, ?_, H.drop⟩
    · refine ownS_read H0 i _ ?_
      rw [List.getElem?_map, List.getElem?_eq_getElem (by exact hi), List.getD_eq_getElem?_getD, List.getElem?_eq_getElem (by exact hi)]
      rfl
    · rw [(strEq_iff s s).2 rfl]

theorem CrcMore_law (s : ByteArray) (a : Option Addr) (l c : Nat) (cs : List Nat) (h : Heap) (hr : RdC h a (cs.map nv)) (hcl : cs.length = l) (hcs : ∀ n ∈ cs, n < 256) : CallsH Try.prog 4 [.string s, .slice a l c] h (Good h) := by
  apply F4_ok
  unfold F4
  refine F13_spec.mono ?_
  rintro v h' ⟨rfl, rfl⟩
  rw [DB_bool]
  cases hsz : decide ((s.size : Int) > 4000) with
  | true => exact good_same _
  | false =>
    have hle : s.size ≤ 4000 := by have := of_decide_eq_false hsz; omega
    refine ⟨fun st h1 => h1 = h' ∧ ∃ (i : Nat) (rest : ByteArray) (pre : List UInt8), st = (((More 0 (nb pre) : Nat) : Int), rest, (i : Int)) ∧ i ≤ 100 ∧ pre ++ rest.data.toList = s.data.toList, fun st _ => (100 - st.2.2).toNat, ⟨rfl, 0, s, [], by rfl, by omega, rfl⟩, ?_⟩
    rintro st h1 ⟨rfl, i, rest, pre, rfl, hi, hpre⟩
    have hrest : rest.size ≤ 4000 := by
      have := congrArg List.length hpre
      simp only [List.length_append, size_eq] at this
      omega
    have hM : More 0 (nb pre) < 4294967296 := Crc.More_lt (by decide) (nb_lt _)
    have fin : RunH Try.prog (Go.convert 9 26 (.string rest)) h1 fun r2 h_3 =>
            DSl r2 fun x2a x2l x2c =>
            CallsH Try.prog 18 [.int .u32 ((More 0 (nb pre) : Nat) : Int), .slice x2a x2l x2c] h_3 fun r3 h_4 =>
            DI .u32 r3 fun x3 =>
            CallsH Try.prog 14 [.string s] h_4 fun r4 h_5 =>
            DI .u32 r4 fun x4 =>
            Good h1 (.bool ((x3 : Int) == x4)) h_5 := by
      refine bytesOf_sat (by kernel_rfl) (e := 5) (by kernel_rfl) (by kernel_rfl) (show rest.size ≤ maxLen by unfold maxLen; omega) (sat_old _) fun b c h3 H => ?_
      rw [DSl_slice]
      rw [bv_nv] at H
      refine (F18_spec hM (ownS_read H) (nb_lt _) (nb_length rest) (by omega)).mono ?_
      rintro v h4 ⟨rfl, rfl⟩
      rw [DI_int]
      refine (F14_spec (b := s) (by omega)).mono ?_
      rintro v h5 ⟨rfl, rfl⟩
      rw [DI_int]
      refine ⟨?_, H.drop⟩
      rw [← Crc.More_append, ← nb_append, hpre, beq_self_eq_true]
    cases hlt : decide ((i : Int) < (l : Int)) with
    | false => exact fin
    | true =>
      have hil : i < l := by have := of_decide_eq_true hlt; omega
      cases h100 : decide ((i : Int) < 100) with
      | false => exact fin
      | true =>
        have hi100 : i < 100 := by have := of_decide_eq_true h100; omega
        obtain ⟨u, hu⟩ : ∃ u, cs[i]? = some u := ⟨_, List.getElem?_eq_getElem (by omega)⟩
        have hu8 : u < 256 := hcs u (List.mem_of_getElem? hu)
        cases a with
        | none =>
          have : cs.map nv = [] := hr
          rw [List.map_eq_nil_iff] at this
          subst this
          simp at hu
        | some a =>
          refine ⟨a, rfl, by show (0:Int) ≤ (i:Int); omega, by show (i : Int) < (l : Int); omega, nv u, hr _ _ ?_, ?_⟩
          · show (cs.map nv)[((i : Int)).toNat * 1]? = _
            rw [Int.toNat_natCast, Nat.mul_one, List.getElem?_map, hu]
            rfl
          · show DI .u8 (.int .u8 (u : Int)) _
            rw [DI_int]
            have e1 : IntKind.wrap .i64 (Int.tmod (u : Int) 32) = ((u % 32 : Nat) : Int) := by
              rw [show Int.tmod (u : Int) 32 = ((u % 32 : Nat) : Int) from tmod_nat u 32]
              exact wrap64_nat (by omega)
            simp only [e1]
            obtain ⟨m, hm, hme⟩ : ∃ m : Nat, m ≤ rest.size ∧ (if (rest.size : Int) < ((u % 32 : Nat) : Int) then (rest.size : Int) else ((u % 32 : Nat) : Int)) = (m : Int) := by
              by_cases hlt2 : (rest.size : Int) < ((u % 32 : Nat) : Int)
              · exact ⟨rest.size, Nat.le_refl _, by rw [if_pos hlt2]⟩
              · exact ⟨u % 32, by omega, by rw [if_neg hlt2]⟩
            rw [hme]
            refine ⟨by decide, by decide, by omega, by omega, ?_⟩
            have hx : (rest.extract (0:Int).toNat (m : Int).toNat).data.toList = rest.data.toList.take m := by
              rw [toList_extract]; simp
            have hxs : (rest.extract (0:Int).toNat (m : Int).toNat).size ≤ 4000 := by
              rw [← size_eq, hx, List.length_take]
              omega
            refine (F17_spec hM (by omega)).mono ?_
            rintro v h2 ⟨rfl, rfl⟩
            rw [DI_int, hx]
            refine ⟨by omega, by omega, by omega, ⟨rfl, i + 1, rest.extract (m : Int).toNat (rest.size : Int).toNat, pre ++ rest.data.toList.take m, ?_, by omega, ?_⟩, ?_⟩
            · rw [wrap64_succ (by omega), nb_append, ← Crc.More_append]
            · rw [toList_extract]
              simp only [Int.toNat_natCast]
              have ed : (rest.data.toList.drop m).take (rest.size - m) = rest.data.toList.drop m := List.take_of_length_le (by rw [List.length_drop, size_eq]; omega)
              rw [ed, List.append_assoc, List.take_append_drop, hpre]
            · show (100 - (IntKind.wrap .i64 ((i : Int) + 1))).toNat < (100 - (i : Int)).toNat
              rw [wrap64_succ (by omega)]
              omega

/-! ### bursts -/
def cur (N : List Nat) (f k W : Nat) : List Nat := N.take f ++ List.zipWith (· ^^^ ·) (N.drop f) (Crc.bytes k W) ++ N.drop (f + k)
theorem bytes_succ : ∀ (k W : Nat), Crc.bytes (k + 1) W = Crc.bytes k W ++ [W / 256 ^ k % 256]
  | 0, W => by simp [Crc.bytes]
  | k + 1, W => by
    show W % 256 :: Crc.bytes (k + 1) (W / 256) = W % 256 :: Crc.bytes k (W / 256) ++ _
    rw [bytes_succ k, Nat.div_div_eq_div_mul, Nat.pow_succ, Nat.mul_comm 256]
    rfl
theorem cur_length {N : List Nat} {f k W : Nat} (h : f + k ≤ N.length) : (cur N f k W).length = N.length := by
  simp only [cur, List.length_append, List.length_take, List.length_zipWith, List.length_drop, Crc.bytes_length]
  omega
theorem cur_zero (N : List Nat) (f W : Nat) : cur N f 0 W = N := by simp [cur, Crc.bytes]
theorem cur_lt {N : List Nat} (hN : ∀ n ∈ N, n < 256) (f k W : Nat) : ∀ n ∈ cur N f k W, n < 256 := by
  intro n hn
  simp only [cur, List.mem_append] at hn
  rcases hn with (hn | hn) | hn
  · exact hN n (List.mem_of_mem_take hn)
  · rw [List.mem_iff_getElem?] at hn
    obtain ⟨j, hj⟩ := hn
    rw [List.getElem?_zipWith] at hj
    cases h1 : (N.drop f)[j]? with
    | none => rw [h1] at hj; cases hj
    | some x =>
      cases h2 : (Crc.bytes k W)[j]? with
      | none => rw [h1, h2] at hj; cases hj
      | some y =>
        rw [h1, h2] at hj
        simp only [Option.some.injEq] at hj
        subst hj
        exact Nat.xor_lt_two_pow (n := 8) (hN x (List.mem_of_mem_drop (List.mem_of_getElem? h1))) (Crc.bytes_lt _ _ y (List.mem_of_getElem? h2))
  · exact hN n (List.mem_of_mem_drop hn)
theorem cur_get {N : List Nat} {f k W : Nat} (h : f + k ≤ N.length) : (cur N f k W)[f + k]? = N[f + k]? := by
  have hl : (N.take f ++ List.zipWith (· ^^^ ·) (N.drop f) (Crc.bytes k W)).length = f + k := by
    simp only [List.length_append, List.length_take, List.length_zipWith, List.length_drop, Crc.bytes_length]
    omega
  rw [cur, List.getElem?_append_right (by omega), hl, Nat.sub_self, List.getElem?_drop, Nat.add_zero]
theorem cur_succ {N : List Nat} {f k W : Nat} {n : Nat} (hn : N[f + k]? = some n) : (cur N f k W).set (f + k) (n ^^^ (W / 256 ^ k % 256)) = cur N f (k + 1) W := by
  have hlt := (List.getElem?_eq_some_iff.1 hn).1
  have hl : (N.take f ++ List.zipWith (· ^^^ ·) (N.drop f) (Crc.bytes k W)).length = f + k := by
    simp only [List.length_append, List.length_take, List.length_zipWith, List.length_drop, Crc.bytes_length]
    omega
  have hd : N.drop (f + k) = n :: N.drop (f + (k + 1)) := by
    rw [List.drop_eq_getElem_cons hlt]
    rw [List.getElem?_eq_getElem hlt] at hn
    simp only [Option.some.injEq] at hn
    rw [hn]
    rfl
  unfold cur
  rw [List.set_append_right _ _ (by omega), hl, Nat.sub_self, hd, List.set_cons_zero, bytes_succ]
  have hz : List.zipWith (· ^^^ ·) (N.drop f) (Crc.bytes k W ++ [W / 256 ^ k % 256]) = List.zipWith (· ^^^ ·) (N.drop f) (Crc.bytes k W) ++ [n ^^^ (W / 256 ^ k % 256)] := by
    have e1 : N.drop f = (N.drop f).take k ++ N.drop (f + k) := by
      conv => lhs; rw [← List.take_append_drop k (N.drop f), List.drop_drop]
    have hk : ((N.drop f).take k).length = (Crc.bytes k W).length := by
      rw [List.length_take, List.length_drop, Crc.bytes_length]
      omega
    have e2 : List.zipWith (· ^^^ ·) (N.drop f) (Crc.bytes k W) = List.zipWith (· ^^^ ·) ((N.drop f).take k) (Crc.bytes k W) := by
      conv => lhs; rw [e1]
      have := List.zipWith_append (f := fun (x y : Nat) => x ^^^ y) (l₁ := (N.drop f).take k) (l₂ := Crc.bytes k W) (l₁' := N.drop (f + k)) (l₂' := []) hk
      simpa using this
    rw [e2]
    conv => lhs; rw [e1, List.zipWith_append hk, hd]
    simp
  rw [hz]
  simp
theorem cur_sum {N : List Nat} {f k W turn bit : Nat} (hW : W = turn * 2 ^ bit) (ht : turn < 4294967296) (hb : bit < 8) (hk : k ≤ 5) (h : f + k ≤ N.length) :
    More 0 (cur N f k W) = More 0 N ↔ ∀ b ∈ Crc.bytes k W, b = 0 := by
  subst hW
  rw [← Crc.burst ht hb hk]
  have e : N = N.take f ++ (N.drop f).take k ++ N.drop (f + k) := by
    rw [List.append_assoc, ← List.drop_drop, List.take_append_drop, List.take_append_drop]
  have hl : (Crc.bytes k (turn * 2 ^ bit)).length = ((N.drop f).take k).length := by
    rw [List.length_take, List.length_drop, Crc.bytes_length]
    omega
  have e2 : cur N f k (turn * 2 ^ bit) = N.take f ++ List.zipWith (· ^^^ ·) ((N.drop f).take k) (Crc.bytes k (turn * 2 ^ bit)) ++ N.drop (f + k) := by
    unfold cur
    congr 2
    have e1 : N.drop f = (N.drop f).take k ++ N.drop (f + k) := by
      conv => lhs; rw [← List.take_append_drop k (N.drop f), List.drop_drop]
    conv => lhs; rw [e1]
    have := List.zipWith_append (f := fun (x y : Nat) => x ^^^ y) (l₁ := (N.drop f).take k) (l₂ := Crc.bytes k (turn * 2 ^ bit)) (l₁' := N.drop (f + k)) (l₂' := []) hl.symm
    simpa using this
  rw [e2]
  conv => lhs; rhs; rw [e]
  exact Crc.More_turned _ _ _ _ 0 hl (Crc.bytes_lt _ _)
theorem burst_byte {turn bit k : Nat} (ht : turn < 4294967296) (hk : k < 5) :
    IntKind.wrap .u8 (shrI .u64 (shlI .u64 (IntKind.wrap .u64 (turn : Int)) (IntKind.wrap .u64 (Int.tmod (bit : Int) 8))) (IntKind.wrap .u64 (IntKind.wrap .i64 (8 * (k : Int))))) = ((turn * 2 ^ (bit % 8) / 256 ^ k % 256 : Nat) : Int) := by
  have hb : bit % 8 < 8 := Nat.mod_lt _ (by decide)
  have hw : turn * 2 ^ (bit % 8) < 1099511627776 := by
    have : (2:Nat) ^ (bit % 8) ≤ 2 ^ 7 := Nat.pow_le_pow_right (by decide) (by omega)
    have h2 : turn * 2 ^ (bit % 8) ≤ turn * 2 ^ 7 := Nat.mul_le_mul_left _ this
    omega
  rw [show Int.tmod (bit : Int) 8 = ((bit % 8 : Nat) : Int) from tmod_nat bit 8]
  rw [IntWalk.u64_in (turn : Int) (by omega), IntWalk.u64_in ((bit % 8 : Nat) : Int) (by omega)]
  have e1 : shlI .u64 (turn : Int) ((bit % 8 : Nat) : Int) = ((turn * 2 ^ (bit % 8) : Nat) : Int) := by
    unfold shlI
    rw [Int.toNat_natCast, Nat.min_eq_left (by show bit % 8 ≤ 64; omega)]
    rw [show (turn : Int) * 2 ^ (bit % 8) = ((turn * 2 ^ (bit % 8) : Nat) : Int) by simp]
    exact IntWalk.u64_in _ (by omega)
  have e2 : IntKind.wrap .u64 (IntKind.wrap .i64 (8 * (k : Int))) = ((8 * k : Nat) : Int) := by
    rw [show 8 * (k : Int) = ((8 * k : Nat) : Int) by simp, wrap64_nat (by omega)]
    exact IntWalk.u64_in _ (by omega)
  rw [e1, e2, shrI_nat .u64 _ _ (by show 8 * k ≤ 64; omega)]
  rw [show (256:Nat) ^ k = 2 ^ (8 * k) by rw [Nat.pow_mul]]
  rw [IntKind.wrap_u8]
  omega
theorem any_ne {l : List Nat} : l.any (fun b => b != 0) = false ↔ ∀ b ∈ l, b = 0 := by simp

theorem CrcBursts_law (s : ByteArray) (at_ bit turn : Nat) (hat : at_ < 65536) (hbit : bit < 256) (hturn : turn < 4294967296) (h : Heap) :
    CallsH Try.prog 5 [.string s, .int .u16 (at_ : Int), .int .u8 (bit : Int), .int .u32 (turn : Int)] h (Good h) := by
  apply F5_ok
  unfold F5
  refine F13_spec.mono ?_
  rintro v h' ⟨rfl, rfl⟩
  rw [DB_bool]
  have empt : CallsH Try.prog 15 [.string .empty] h' fun r1 h_1 => DI .u32 r1 fun x1 => Good h' (.bool ((x1 : Int) == 0)) h_1 := by
    refine (F15_spec (by decide)).mono ?_
    rintro v h1 ⟨rfl, rfl⟩
    rw [DI_int]
    exact ⟨congrArg Value.bool (by decide +kernel), sat_old _⟩
  cases hsz : decide ((s.size : Int) > 4000) with
  | true => exact empt
  | false =>
    have hle : s.size ≤ 4000 := by have := of_decide_eq_false hsz; omega
    cases hz : (s.size : Int) == 0 with
    | true => exact empt
    | false =>
      have hne : s.size ≠ 0 := by
        intro e
        rw [e] at hz
        cases hz
      cases htz : (turn : Int) == 0 with
      | true => exact empt
      | false =>
        simp only [Bool.not_true, cond_false, cond_true]
        refine bytesOf_sat (by kernel_rfl) (e := 5) (by kernel_rfl) (by kernel_rfl) (show s.size ≤ maxLen by unfold maxLen; omega) (sat_old _) fun b c h4 H => ?_
        rw [DSl_slice]
        rw [bv_nv] at H
        have hbm : Int.tmod (bit : Int) 8 = ((bit % 8 : Nat) : Int) := tmod_nat bit 8
        have hb8 : bit % 8 < 8 := Nat.mod_lt _ (by decide)
        refine ⟨by decide, by rw [hbm, IntWalk.u64_in _ (by omega)]; omega, by omega, ?_⟩
        have hfi : Int.tmod (IntKind.wrap .i64 (at_ : Int)) (s.size : Int) = ((at_ % s.size : Nat) : Int) := by
          rw [wrap64_nat (by omega)]
          exact tmod_nat _ _
        have hflt : at_ % s.size < s.size := Nat.mod_lt _ (by omega)
        rw [hfi]
        generalize at_ % s.size = f at hflt
        have hNl := nb_length s
        have hN256 := nb_lt s.data.toList
        generalize hW : turn * 2 ^ (bit % 8) = W
        generalize hN : nb s.data.toList = N at *
        refine ⟨fun st h5 => ∃ k : Nat, st = ((Crc.bytes k W).any (fun b => b != 0), (k : Int)) ∧ k ≤ 5 ∧ f + k ≤ s.size ∧ sat (ownS 5 1 (some ⟨b, 0, none⟩) s.size c ((cur N f k W).map nv) :: [old h']) h5, fun st _ => (5 - st.2).toNat, ⟨0, rfl, by omega, by omega, by rw [cur_zero]; exact H⟩, ?_⟩
        rintro st h5 ⟨k, rfl, hk, hfk, H5⟩
        have fin : CallsH Try.prog 16 [.slice (some ⟨b, 0, none⟩) s.size c] h5 fun r6 h_8 =>
                DI .u32 r6 fun x5 =>
                CallsH Try.prog 15 [.string s] h_8 fun r7 h_9 =>
                DI .u32 r7 fun x6 =>
                Good h' (.bool (((x5 : Int) != x6) == (Crc.bytes k W).any (fun b => b != 0))) h_9 := by
          refine (F16_spec (ownS_read H5) (cur_lt hN256 _ _ _) (by rw [cur_length (by omega), hNl]) (by omega)).mono ?_
          rintro v h8 ⟨rfl, rfl⟩
          rw [DI_int]
          refine (F15_spec (b := s) (by omega)).mono ?_
          rintro v h9 ⟨rfl, rfl⟩
          rw [DI_int, hN]
          refine ⟨?_, H5.drop⟩
          have hc := cur_sum (N := N) (f := f) (k := k) hW.symm hturn hb8 hk (by omega)
          cases hany : (Crc.bytes k W).any (fun b => b != 0) with
          | false =>
            have := hc.2 (any_ne.1 hany)
            rw [this]
            simp
          | true =>
            have hne2 : More 0 (cur N f k W) ≠ More 0 N := fun e => by
              rw [any_ne.2 (hc.1 e)] at hany
              cases hany
            have : (((More 0 (cur N f k W) : Nat) : Int) != ((More 0 N : Nat) : Int)) = true := by
              rw [bne_iff_ne]
              omega
            rw [this]
            rfl
        cases h5k : decide ((k : Int) < 5) with
        | false => exact fin
        | true =>
          have hk5 : k < 5 := by have := of_decide_eq_true h5k; omega
          have e0 : IntKind.wrap .i64 ((f : Int) + (k : Int)) = ((f + k : Nat) : Int) := by
            rw [show (f : Int) + (k : Int) = ((f + k : Nat) : Int) by simp]
            exact wrap64_nat (by omega)
          have ebyte := burst_byte (bit := bit) hturn hk5
          rw [hW] at ebyte
          simp only [e0, ebyte]
          cases hfl : decide (((f + k : Nat) : Int) < (s.size : Int)) with
          | false => exact fin
          | true =>
            have hfkl : f + k < s.size := by have := of_decide_eq_true hfl; omega
            obtain ⟨n, hn⟩ : ∃ n, N[f + k]? = some n := ⟨_, List.getElem?_eq_getElem (by omega)⟩
            have hn8 : n < 256 := hN256 n (List.mem_of_getElem? hn)
            have hcl : (cur N f k W).length = N.length := cur_length (by omega)
            have e8 : IntKind.wrap .u64 (IntKind.wrap .i64 (8 * (k : Int))) = ((8 * k : Nat) : Int) := by
              rw [show 8 * (k : Int) = ((8 * k : Nat) : Int) by simp, wrap64_nat (by omega)]
              exact IntWalk.u64_in _ (by omega)
            refine ⟨by rw [e8]; omega, ⟨b, 0, none⟩, rfl, by omega, by omega, nv n, ownS_read H5 _ _ ?_, ?_⟩
            · rw [Int.toNat_natCast, Nat.mul_one, List.getElem?_map, cur_get (by omega), hn]
              rfl
            · show DI .u8 (.int .u8 (n : Int)) _
              rw [DI_int]
              refine ⟨⟨b, 0, none⟩, rfl, by omega, by omega, ?_⟩
              rw [Int.toNat_natCast, Nat.mul_one]
              simp only [addr_add0]
              have hx8 : W / 256 ^ k % 256 < 256 := Nat.mod_lt _ (by decide)
              rw [xor8 hn8 hx8]
              refine ownS_set H5 (by rw [List.length_map, hcl]; omega) fun h7 H7 => ?_
              rw [show ((cur N f k W).map nv).set (f + k) (.int .u8 ((n ^^^ (W / 256 ^ k % 256) : Nat) : Int)) = ((cur N f k W).set (f + k) (n ^^^ (W / 256 ^ k % 256))).map nv from (List.map_set ..).symm, cur_succ hn] at H7
              have hmu : (5 - (IntKind.wrap .i64 ((k : Int) + 1))).toNat < (5 - (k : Int)).toNat := by
                rw [wrap64_succ (by omega)]
                omega
              cases hany : (Crc.bytes k W).any (fun b => b != 0) with
              | true =>
                refine ⟨⟨k + 1, ?_, by omega, by omega, H7⟩, hmu⟩
                rw [wrap64_succ (by omega), bytes_succ, List.any_append, hany]
                rfl
              | false =>
                refine ⟨⟨k + 1, ?_, by omega, by omega, H7⟩, hmu⟩
                rw [wrap64_succ (by omega), bytes_succ, List.any_append, hany]
                have : (((W / 256 ^ k % 256 : Nat) : Int) != 0) = (W / 256 ^ k % 256 != 0) := by
                  rw [Bool.eq_iff_iff]
                  simp only [bne_iff_ne, ne_eq]
                  omega
                rw [this]
                simp

end Go.Proofs.Ytpblcdgglbhdoaa
