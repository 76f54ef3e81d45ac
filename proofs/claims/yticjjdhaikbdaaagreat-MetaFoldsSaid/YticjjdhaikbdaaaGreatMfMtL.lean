/- Bytes read back: numbers, texts, pairs. -/
import Derived.Test.YticjjdhaikbdaaaGreatMfMtI
import Derived.Test.YticjjdhaikbdaaaGreatMfTk
import Derived.Tactics
import Derived.Tactics2
import Derived.Defers
import Derived.Recover
import Derived.Laws.Pointers
import Derived.TacticsInMore
import Derived.RegionIn
import Derived.RecoverIn
namespace Go.Proofs.YticjjdhaikbdaaaGreat
open Go Go.RowKit Go.MapKept
set_option linter.unusedVariables false
set_option linter.unusedSimpArgs false
open AF (Meta copyT topT nmI Ent IdOk)
open Hex (digs)

theorem idle187 (a b : Option Addr) (w : World) : CallsDIn Fence.wide 0 Tryz.prog 187 #[.pointer a, .pointer b] .returning w fun e u' w' => e = .returned (.tuple #[]) ∧ u' = .returning ∧ w' = w := by
  refine callsDIn_of_wpSIn Tryz.func187 rfl trivial fun c₀ cs hu => ?_
  apply wpSIn_seq
  apply wpSIn_region
  simp [wpOpsSIn, go_sem, recoverD, hu, Exit.thenS]
  apply wpSIn_seq
  apply wpSIn_region
  simp [wpOpsSIn, go_sem, Exit.thenS]
  refine wpSIn_cond (t := false) (by simp [Act.eval, Array.replicate]) ?_
  simp only [Bool.false_eq_true, if_false]
  refine wpSIn_of_wpIn rfl (wpIn_skip ?_)
  cases c₀
  simp_all [bodyPostS, results]
theorem F187_idle {a b : Option Addr} {h : Heap} {K : Heap → Prop} (H : K h) : DeferH Tryz.prog 187 [.pointer a, .pointer b] h K := by
  refine ⟨by kernel_rfl, fun w hw => ?_⟩
  refine (idle187 a b w).mono ?_
  rintro e u' w' ⟨rfl, rfl, rfl⟩
  exact ⟨⟨_, rfl⟩, rfl, by rw [hw]; exact H, ⟨rfl, rfl, rfl⟩⟩

theorem or64 {a b : Nat} (ha : a < 18446744073709551616) (hb : b < 18446744073709551616) : bitsI .or .u64 (a : Int) (b : Int) = ((a ||| b : Nat) : Int) := by
  unfold bitsI
  simp only []
  have e : (BitVec.ofInt (IntKind.u64).bits (a : Int) ||| BitVec.ofInt (IntKind.u64).bits (b : Int)).toNat = a ||| b := by
    rw [BitVec.ofInt_natCast, BitVec.ofInt_natCast, BitVec.toNat_or, BitVec.toNat_ofNat, BitVec.toNat_ofNat, Nat.mod_eq_of_lt (show a < 2 ^ IntKind.u64.bits from ha), Nat.mod_eq_of_lt (show b < 2 ^ IntKind.u64.bits from hb)]
  rw [e]
  have : a ||| b < 2 ^ 64 := Nat.or_lt_two_pow ha hb
  rw [IntWalk.u64_in _ (by omega)]
theorem or_shl {i a d : Nat} (ha : a < 2 ^ i) : a ||| d * 2 ^ i = a + d * 2 ^ i := by
  rw [Nat.or_comm, Nat.mul_comm, ← Nat.two_pow_add_eq_or_of_lt ha, Nat.add_comm]
theorem LoopH.by {S : Type} {F : (S → Heap → Prop) → S → Heap → Prop} {s0 : S} {h0 : Heap} (I : S → Heap → Prop) (μ : S → Nat) (start : I s0 h0)
    (step : ∀ s h again, I s h → (∀ s' h', I s' h' → μ s' < μ s → again s' h') → F again s h) : LoopH F s0 h0 :=
  ⟨I, fun s _ => μ s, start, fun s h hi => step s h _ hi fun s' h' h1 h2 => ⟨h1, h2⟩⟩
set_option maxRecDepth 20000 in
theorem and127 {c : Nat} (hc : c < 256) : bitsI .and .u8 (c : Int) 127 = ((c % 128 : Nat) : Int) := by
  have h : ∀ x : Fin 256, bitsI .and .u8 (x.val : Int) 127 = ((x.val % 128 : Nat) : Int) := by decide
  exact h ⟨c, hc⟩
theorem shl64 {d i : Nat} (hi : i ≤ 64) (h : d * 2 ^ i < 18446744073709551616) : shlI .u64 (d : Int) (i : Int) = ((d * 2 ^ i : Nat) : Int) := by
  unfold shlI
  rw [Int.toNat_natCast, show min i IntKind.u64.bits = i from Nat.min_eq_left hi]
  have e : (d : Int) * 2 ^ i = ((d * 2 ^ i : Nat) : Int) := by
    rw [Int.natCast_mul, Int.natCast_pow]
    rfl
  rw [e]
  exact IntWalk.u64_in _ (by omega)
/-- What one byte brings. -/
theorem digit_step {acc c i n : Nat} (hc : c < 256) (hi : i ≤ 7) (ha : acc < 2 ^ (7 * i)) (hn : acc + c % 128 * 2 ^ (7 * i) ≤ n) (hb : n < 72057594037927936) :
    bitsI .or .u64 (acc : Int) (shlI .u64 (IntKind.wrap .u64 (bitsI .and .u8 (c : Int) 127)) (IntKind.wrap .i64 (7 * (i : Int)))) = ((acc + c % 128 * 2 ^ (7 * i) : Nat) : Int) := by
  rw [and127 hc, IntWalk.u64_in _ (by omega)]
  have e : IntKind.wrap .i64 (7 * (i : Int)) = ((7 * i : Nat) : Int) := by rw [IntWalk.i64_in _ (by omega)]; omega
  rw [e, shl64 (by omega) (by omega), or64 (by omega) (by omega), or_shl ha]
/-- The head of a number's bytes. -/
theorem numB_head (m : Nat) : ∃ c t, numB m = c :: t ∧ c < 256 ∧ c % 128 = m % 128 ∧ ((m < 128 ∧ c = m ∧ t = []) ∨ (¬ m < 128 ∧ 128 ≤ c ∧ t = numB (m / 128))) := by
  by_cases h : m < 128
  · exact ⟨m, [], numB_small h, by omega, rfl, .inl ⟨h, rfl, rfl⟩⟩
  · exact ⟨m % 128 + 128, _, numB_big h, by omega, by omega, .inr ⟨h, by omega, rfl⟩⟩
section
variable {F : List HProp} {h : Heap}
set_option maxHeartbeats 1000000 in
set_option maxRecDepth 20000 in
theorem F205_spec {a : Option Addr} {c n : Nat} {rest : List Nat} (hn : n < 72057594037927936) (hl : (numB n ++ rest).length ≤ 1099511627776) (hR : RdC h a ((numB n ++ rest).map nv)) :
    CallsH Tryz.prog 205 [.slice a (numB n ++ rest).length c] h fun v h' => h' = h ∧ v = .tuple #[.int .u64 (n : Int), .int .i64 ((numB n).length : Int), .int .i64 0] := by
  apply F205_ok
  unfold F205
  have hnl : (numB n).length ≤ 8 := numB_length 7 n hn
  refine LoopH.by (fun s h2 => h2 = h ∧ ∃ (i acc m : Nat) (pre : List Nat), s = ((acc : Int), (i : Int)) ∧ numB n = pre ++ numB m ∧ pre.length = i ∧ acc < 2 ^ (7 * i) ∧ acc + m * 2 ^ (7 * i) = n ∧ (0 < i → 0 < m)) (fun s => 9 - s.2.toNat) ⟨rfl, 0, 0, n, [], rfl, (List.nil_append _).symm, rfl, Nat.zero_lt_one, by rw [Nat.mul_zero, Nat.pow_zero, Nat.mul_one, Nat.zero_add], fun h => absurd h (Nat.lt_irrefl 0)⟩ ?_
  rintro s h2 again ⟨rfl, i, acc, m, pre, rfl, hp, hi, ha, hm, hz⟩ go
  obtain ⟨cc, t, ht, hc8, hcm, hcase⟩ := numB_head m
  have hlen : (numB n).length = i + 1 + t.length := by rw [hp, ht, List.length_append, List.length_cons]; omega
  have hi7 : i ≤ 7 := by omega
  have hget : ((numB n ++ rest).map nv)[i]? = some (nv cc) := by
    rw [hp, ht, List.append_assoc, List.map_append, List.getElem?_append_right (by rw [List.length_map]; omega), List.length_map, hi, Nat.sub_self]
    rfl
  have hil : i < (numB n ++ rest).length := by rw [List.length_append]; omega
  rw [decide_eq_true (show (i : Int) < ((numB n ++ rest).length : Int) by omega), cond_true]
  refine IdxA_nat hR (by rw [List.length_map]) hget fun b hb hcell => ?_
  refine ⟨nv cc, hcell, (cc : Int), rfl, ?_⟩
  have h9 : ((i : Int) == 9) = false := by
    rw [beq_eq_false_iff_ne]
    omega
  have hdig : acc + cc % 128 * 2 ^ (7 * i) ≤ n := by
    rw [hcm, ← hm]
    exact Nat.add_le_add_left (Nat.mul_le_mul_right _ (Nat.mod_le _ _)) _
  have hstep := digit_step hc8 hi7 ha hdig hn
  have hwr : IntKind.wrap .i64 ((i : Int) + 1) = ((i + 1 : Nat) : Int) := by rw [IntWalk.i64_in _ (by omega)]; omega
  have h7 : (0 : Int) ≤ IntKind.wrap .i64 (7 * (i : Int)) := by rw [IntWalk.i64_in _ (by omega)]; omega
  have tail : (0 : Int) ≤ IntKind.wrap .i64 (7 * (i : Int)) ∧ (bif decide ((cc : Int) < 128) then
      h2 = h2 ∧ Value.tuple #[.int .u64 ((acc + cc % 128 * 2 ^ (7 * i) : Nat) : Int), .int .i64 ((i + 1 : Nat) : Int), .int .i64 0] = Value.tuple #[.int .u64 (n : Int), .int .i64 ((numB n).length : Int), .int .i64 0]
      else again (((acc + cc % 128 * 2 ^ (7 * i) : Nat) : Int), ((i + 1 : Nat) : Int)) h2) := by
    refine ⟨h7, ?_⟩
    refine hcase.elim (fun hh => ?_) (fun hh => ?_)
    · have hm1 := hh.1
      have ht1 := hh.2.2
      have hcm1 := hh.2.1
      rw [decide_eq_true (show (cc : Int) < 128 by omega), cond_true]
      refine ⟨rfl, ?_⟩
      rw [hlen, hcm, Nat.mod_eq_of_lt hm1, hm, ht1]
      rfl
    · have hm1 := hh.1
      have ht1 := hh.2.2
      have hc1 := hh.2.1
      rw [decide_eq_false (show ¬ (cc : Int) < 128 by omega), cond_false]
      refine go _ _ ⟨rfl, i + 1, _, m / 128, pre ++ [cc], rfl, by rw [hp, ht, ht1, List.append_assoc]; rfl, by rw [List.length_append, hi]; rfl, ?_, ?_, fun _ => Nat.div_pos (by omega) (by decide)⟩ (by simp only [Int.toNat_natCast]; omega)
      · have e1 : 2 ^ (7 * (i + 1)) = 128 * 2 ^ (7 * i) := by rw [Nat.mul_add, Nat.pow_add, Nat.mul_comm]
        have e2 : cc % 128 * 2 ^ (7 * i) ≤ 127 * 2 ^ (7 * i) := Nat.mul_le_mul_right _ (by omega)
        rw [e1]
        omega
      · have e1 : 2 ^ (7 * (i + 1)) = 128 * 2 ^ (7 * i) := by rw [Nat.mul_add, Nat.pow_add, Nat.mul_comm]
        rw [e1, ← Nat.mul_assoc, Nat.add_assoc, ← Nat.add_mul, hcm, ← hm]
        congr 2
        omega
  rw [← hstep, ← hwr] at tail
  dsimp only
  rw [h9, cond_false]
  by_cases h0 : 0 < i
  · rw [decide_eq_true (show (i : Int) > 0 by omega), cond_true]
    have hcz : ((cc : Int) == 0) = false := by
      rw [beq_eq_false_iff_ne]
      have := hz h0
      rcases hcase with ⟨_, h, _⟩ | ⟨_, h, _⟩ <;> omega
    rw [hcz, cond_false]
    exact tail
  · rw [decide_eq_false (show ¬ (i : Int) > 0 by omega), cond_false]
    exact tail

/-- A reader over these bytes. -/
def readerP (rb : Nat) (xs : List Nat) : HProp := exi fun q : Option Addr × Nat => Many [pur (xs.length ≤ q.2 ∧ xs.length ≤ 1099511627776), pt rb (.cells #[.slice q.1 xs.length q.2] 255 (0, 0)), roP (fun h => RdC h q.1 (xs.map nv))]
theorem readerP_open {rb : Nat} {xs : List Nat} (H : sat (readerP rb xs :: F) h) : ∃ a c, xs.length ≤ c ∧ xs.length ≤ 1099511627776 ∧ sat (pt rb (.cells #[.slice a xs.length c] 255 (0, 0)) :: roP (fun h => RdC h a (xs.map nv)) :: F) h := by
  obtain ⟨⟨a, c⟩, H2⟩ := sat_exi.1 H
  obtain ⟨⟨h1, h2⟩, H3⟩ := sat_pur.1 H2.open
  exact ⟨a, c, h1, h2, H3⟩
theorem readerP_shut {rb c : Nat} {a : Option Addr} {xs : List Nat} (h1 : xs.length ≤ c) (h2 : xs.length ≤ 1099511627776) (H : sat (pt rb (.cells #[.slice a xs.length c] 255 (0, 0)) :: roP (fun h => RdC h a (xs.map nv)) :: F) h) : sat (readerP rb xs :: F) h :=
  sat_exi.2 ⟨(a, c), sat.shut (m := [_, _, _]) (sat_pur.2 ⟨⟨h1, h2⟩, H⟩)⟩
theorem drop_pre (p t : List Nat) : (p ++ t).drop p.length = t := by simp
/-- The next number. -/
theorem F188_spec {rb n : Nat} {rest : List Nat} (hn : n < 72057594037927936) (H : sat (readerP rb (numB n ++ rest) :: F) h) :
    CallsH Tryz.prog 188 [ptrV rb] h fun v h' => v = .int .u64 (n : Int) ∧ sat (readerP rb rest :: F) h' := by
  apply F188_ok
  unfold F188
  obtain ⟨a, c, hc, hl, H2⟩ := readerP_open H
  rw [NN'_some]
  refine LdSl H2 rfl ?_
  refine (F205_spec (c := c) hn hl (roP_get (H2.mv 1))).mono ?_
  rintro v h1 ⟨rfl, rfl⟩
  refine ⟨(n : Int), ((numB n).length : Int), 0, rfl, ?_⟩
  rw [show ((0 : Int) != 0) = false from rfl, cond_false, NN'_some]
  refine LdSl H2 rfl ?_
  have hlen : (numB n ++ rest).length = (numB n).length + rest.length := List.length_append
  refine SlV_nat (lo := (numB n).length) (hi := (numB n ++ rest).length) (mx := c) (by omega) hc (Nat.le_refl _) ?_
  rw [NN'_some, addr_add0]
  have e : (numB n ++ rest).length - (numB n).length = rest.length := by omega
  rw [e]
  refine StCC H2 (by exact Nat.zero_lt_one) rfl fun h2 H3 => ?_
  refine ⟨rfl, readerP_shut (a := subA a (numB n).length c 1) (c := c - (numB n).length) (by omega) (by omega) ?_⟩
  refine (roP_mono (fun h hh => ?_) (H3.mv 1)).mv 1
  have := RdC.sub hh (numB n).length rest.length c (by omega)
  rw [← List.map_drop, drop_pre, List.take_of_length_le (by rw [List.length_map]; exact Nat.le_refl _)] at this
  exact this
/-- So many bytes. -/
theorem F189_spec {rb : Nat} {w rest : List Nat} (H : sat (readerP rb (w ++ rest) :: F) h) :
    CallsH Tryz.prog 189 [ptrV rb, .int .u64 (w.length : Int)] h fun v h' => ∃ a c, v = .slice a w.length c ∧ sat (roP (fun h => RdC h a (w.map nv)) :: readerP rb rest :: F) h' := by
  apply F189_ok
  unfold F189
  obtain ⟨a, c, hc, hl, H2⟩ := readerP_open H
  have hlen : (w ++ rest).length = w.length + rest.length := List.length_append
  rw [NN'_some]
  refine LdSl H2 rfl ?_
  rw [IntWalk.u64_in _ (by omega), decide_eq_false (show ¬ ((w.length : Int) > ((w ++ rest).length : Int)) by omega), cond_false, NN'_some]
  refine LdSl H2 rfl ?_
  refine SlV_nat (lo := 0) (hi := w.length) (mx := c) (Nat.zero_le _) (by omega) (Nat.le_refl _) ?_
  rw [NN'_some]
  refine LdSl H2 rfl ?_
  refine SlV_nat (lo := w.length) (hi := (w ++ rest).length) (mx := c) (by omega) hc (Nat.le_refl _) ?_
  rw [NN'_some, addr_add0]
  have e : (w ++ rest).length - w.length = rest.length := by omega
  rw [e, Nat.sub_zero]
  refine StCC H2 (by exact Nat.zero_lt_one) rfl fun h2 H3 => ?_
  refine ⟨_, _, rfl, ?_⟩
  -- rb, ro, F
  have H4 := roP_dup (H3.mv 1)
  have H5 := roP_mono (S := fun h => RdC h (subA a 0 c 1) (w.map nv)) (fun h hh => by
    have := RdC.sub hh 0 w.length c (by omega)
    rw [List.drop_zero, ← List.map_take, List.take_left'] at this
    · exact this
    · rfl) H4
  -- w, ro, rb, F
  have H8 := roP_mono (S := fun h => RdC h (subA a w.length c 1) (rest.map nv)) (fun h hh => by
    have := RdC.sub hh w.length rest.length c (by omega)
    rw [← List.map_drop, drop_pre, List.take_of_length_le (by rw [List.length_map]; exact Nat.le_refl _)] at this
    exact this) (H5.mv 1)
  exact (readerP_shut (a := subA a w.length c 1) (c := c - w.length) (by omega) (by omega) (H8.ordT 3 [2, 0, 1])).mv 1
theorem F174_spec {rb : Nat} {w rest : List Nat} (h8 : B8 w) (hw : w.length < 72057594037927936) (H : sat (readerP rb (wordB w ++ rest) :: F) h) :
    CallsH Tryz.prog 174 [ptrV rb] h fun v h' => v = .string (ofN w) ∧ sat (readerP rb rest :: F) h' := by
  apply F174_ok
  unfold F174
  unfold wordB at H
  rw [List.append_assoc] at H
  refine (F188_spec hw H).mono ?_
  rintro v h1 ⟨rfl, H1⟩
  refine ⟨_, rfl, ?_⟩
  refine (F189_spec H1).mono ?_
  rintro v h2 ⟨a, c, rfl, H2⟩
  rw [DSl_slice]
  exact ⟨ofN w, bytesIn_of (roP_get H2) rfl h8, rfl, H2.drop⟩
end
end Go.Proofs.YticjjdhaikbdaaaGreat
