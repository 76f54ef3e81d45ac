/- Bytes read back: numbers, texts, pairs. -/
import Derived.Test.YtibdiikcigokjaaGreatDoorKsMdX
import Derived.Test.YtibdiikcigokjaaGreatDoorKsTs
import Derived.Tactics
import Derived.Tactics2
import Derived.Defers
import Derived.Recover
import Derived.Laws.Pointers
import Derived.TacticsInMore
import Derived.RegionIn
import Derived.RecoverIn
namespace Go.Proofs.YtibdiikcigokjaaGreatDoor
open Go Go.RowKit Go.MapKept
set_option linter.unusedVariables false
set_option linter.unusedSimpArgs false
open AF (Meta copyT topT nmI Ent IdOk)
open Hex (digs)
theorem idle187 (a b : Option Addr) (w : World) : CallsDIn Fence.wide 0 Tryz.prog 182 #[.pointer a, .pointer b] .returning w fun e u' w' => e = .returned (.tuple #[]) ∧ u' = .returning ∧ w' = w := by
 refine callsDIn_of_wpSIn Tryz.func182 rfl trivial fun c₀ cs hu => ?_
 apply wpSIn_seq
 apply wpSIn_region
 simp [wpOpsSIn, go_sem, recoverD, hu, Exit.thenS]
 apply wpSIn_seq
 apply wpSIn_region
 simp [wpOpsSIn, go_sem, Exit.thenS]
 refine wpSIn_cond (t := false) (by simp [Act.eval, Array.replicate]) ?_
 simp only [Bool.false_eq_true, if_false]
 refine wpSIn_of_wpIn rfl (wpIn_skip ?_)
 cases c₀
 simp_all [bodyPostS, results]
theorem F182_idle {a b : Option Addr} {h : Heap} {K : Heap → Prop} (H : K h) : DeferH Tryz.prog 182 [.pointer a, .pointer b] h K := by
 refine ⟨by kernel_rfl, fun w hw => ?_⟩
 refine (idle187 a b w).mono ?_
 rintro e u' w' ⟨rfl, rfl, rfl⟩
 exact ⟨⟨_, rfl⟩, rfl, by rw [hw]; exact H, ⟨rfl, rfl, rfl⟩⟩
theorem or64 {a b : Nat} (ha : a < 18446744073709551616) (hb : b < 18446744073709551616) : bitsI .or .u64 (a : Int) (b : Int) = ((a ||| b : Nat) : Int) := by
 unfold bitsI
 simp only []
 have e : (BitVec.ofInt (IntKind.u64).bits (a : Int) ||| BitVec.ofInt (IntKind.u64).bits (b : Int)).toNat = a ||| b := by
  rw [BitVec.ofInt_natCast, BitVec.ofInt_natCast, BitVec.toNat_or, BitVec.toNat_ofNat, BitVec.toNat_ofNat, Nat.mod_eq_of_lt (show a < 2 ^ IntKind.u64.bits from ha), Nat.mod_eq_of_lt (show b < 2 ^ IntKind.u64.bits from hb)]
 rw [e]
 have : a ||| b < 2 ^ 64 := Nat.or_lt_two_pow ha hb
 rw [IntWalk.u64_in _ (by omega)]
theorem or_shl {i a d : Nat} (ha : a < 2 ^ i) : a ||| d * 2 ^ i = a + d * 2 ^ i := by
 rw [Nat.or_comm, Nat.mul_comm, ← Nat.two_pow_add_eq_or_of_lt ha, Nat.add_comm]
theorem LoopH.by {S : Type} {F : (S → Heap → Prop) → S → Heap → Prop} {s0 : S} {h0 : Heap} (I : S → Heap → Prop) (μ : S → Nat) (start : I s0 h0)
  (step : ∀ s h again, I s h → (∀ s' h', I s' h' → μ s' < μ s → again s' h') → F again s h) : LoopH F s0 h0 :=
 ⟨I, fun s _ => μ s, start, fun s h hi => step s h _ hi fun s' h' h1 h2 => ⟨h1, h2⟩⟩
set_option maxRecDepth 20000 in
theorem and127 {c : Nat} (hc : c < 256) : bitsI .and .u8 (c : Int) 127 = ((c % 128 : Nat) : Int) := by
 have h : ∀ x : Fin 256, bitsI .and .u8 (x.val : Int) 127 = ((x.val % 128 : Nat) : Int) := by decide
 exact h ⟨c, hc⟩
theorem shl64 {d i : Nat} (hi : i ≤ 64) (h : d * 2 ^ i < 18446744073709551616) : shlI .u64 (d : Int) (i : Int) = ((d * 2 ^ i : Nat) : Int) := by
 unfold shlI
 rw [Int.toNat_natCast, show min i IntKind.u64.bits = i from Nat.min_eq_left hi]
 have e : (d : Int) * 2 ^ i = ((d * 2 ^ i : Nat) : Int) := by
  rw [Int.natCast_mul, Int.natCast_pow]
  rfl
 rw [e]
 exact IntWalk.u64_in _ (by omega)
theorem digit_step {acc c i n : Nat} (hc : c < 256) (hi : i ≤ 7) (ha : acc < 2 ^ (7 * i)) (hn : acc + c % 128 * 2 ^ (7 * i) ≤ n) (hb : n < 72057594037927936) :
  bitsI .or .u64 (acc : Int) (shlI .u64 (IntKind.wrap .u64 (bitsI .and .u8 (c : Int) 127)) (IntKind.wrap .i64 (7 * (i : Int)))) = ((acc + c % 128 * 2 ^ (7 * i) : Nat) : Int) := by
 rw [and127 hc, IntWalk.u64_in _ (by omega)]
 have e : IntKind.wrap .i64 (7 * (i : Int)) = ((7 * i : Nat) : Int) := by rw [IntWalk.i64_in _ (by omega)]; omega
 rw [e, shl64 (by omega) (by omega), or64 (by omega) (by omega), or_shl ha]
theorem numB_head (m : Nat) : ∃ c t, numB m = c :: t ∧ c < 256 ∧ c % 128 = m % 128 ∧ ((m < 128 ∧ c = m ∧ t = []) ∨ (¬ m < 128 ∧ 128 ≤ c ∧ t = numB (m / 128))) := by
 by_cases h : m < 128
 · exact ⟨m, [], numB_small h, by omega, rfl, .inl ⟨h, rfl, rfl⟩⟩
 · exact ⟨m % 128 + 128, _, numB_big h, by omega, by omega, .inr ⟨h, by omega, rfl⟩⟩
section
variable {F : List HProp} {h : Heap}
set_option maxHeartbeats 1000000 in
set_option maxRecDepth 20000 in
theorem F228_spec {a : Option Addr} {c n : Nat} {rest : List Nat} (hn : n < 72057594037927936) (hl : (numB n ++ rest).length ≤ 1099511627776) (hR : RdC h a ((numB n ++ rest).map nv)) :
  CallsH Tryz.prog 228 [.slice a (numB n ++ rest).length c] h fun v h' => h' = h ∧ v = .tuple #[.int .u64 (n : Int), .int .i64 ((numB n).length : Int), .int .i64 0] := by
 apply F228_ok.ap
 unfold F228
 have hnl : (numB n).length ≤ 8 := numB_length 7 n hn
 refine LoopH.by (fun s h2 => h2 = h ∧ ∃ (i acc m : Nat) (pre : List Nat), s = ((acc : Int), (i : Int)) ∧ numB n = pre ++ numB m ∧ pre.length = i ∧ acc < 2 ^ (7 * i) ∧ acc + m * 2 ^ (7 * i) = n ∧ (0 < i → 0 < m)) (fun s => 9 - s.2.toNat) ⟨rfl, 0, 0, n, [], rfl, (List.nil_append _).symm, rfl, Nat.zero_lt_one, by rw [Nat.mul_zero, Nat.pow_zero, Nat.mul_one, Nat.zero_add], fun h => absurd h (Nat.lt_irrefl 0)⟩ ?_
 rintro s h2 again ⟨rfl, i, acc, m, pre, rfl, hp, hi, ha, hm, hz⟩ go
 obtain ⟨cc, t, ht, hc8, hcm, hcase⟩ := numB_head m
 have hlen : (numB n).length = i + 1 + t.length := by rw [hp, ht, List.length_append, List.length_cons]; omega
 have hi7 : i ≤ 7 := by omega
 have hget : ((numB n ++ rest).map nv)[i]? = some (nv cc) := by
  rw [hp, ht, List.append_assoc, List.map_append, List.getElem?_append_right (by rw [List.length_map]; omega), List.length_map, hi, Nat.sub_self]
  rfl
 have hil : i < (numB n ++ rest).length := by rw [List.length_append]; omega
 rw [decide_eq_true (show (i : Int) < ((numB n ++ rest).length : Int) by omega), cond_true]
 refine IdxA_nat hR (by rw [List.length_map]) hget fun b hb hcell => ?_
 refine ⟨nv cc, hcell, (cc : Int), rfl, ?_⟩
 have h9 : ((i : Int) == 9) = false := by
  rw [beq_eq_false_iff_ne];omega
 have hdig : acc + cc % 128 * 2 ^ (7 * i) ≤ n := by
  rw [hcm, ← hm];exact Nat.add_le_add_left (Nat.mul_le_mul_right _ (Nat.mod_le _ _)) _
 have hstep := digit_step hc8 hi7 ha hdig hn
 have hwr : IntKind.wrap .i64 ((i : Int) + 1) = ((i + 1 : Nat) : Int) := by rw [IntWalk.i64_in _ (by omega)]; omega
 have h7 : (0 : Int) ≤ IntKind.wrap .i64 (7 * (i : Int)) := by rw [IntWalk.i64_in _ (by omega)]; omega
 have tail : (0 : Int) ≤ IntKind.wrap .i64 (7 * (i : Int)) ∧ (bif decide ((cc : Int) < 128) then
   h2 = h2 ∧ Value.tuple #[.int .u64 ((acc + cc % 128 * 2 ^ (7 * i) : Nat) : Int), .int .i64 ((i + 1 : Nat) : Int), .int .i64 0] = Value.tuple #[.int .u64 (n : Int), .int .i64 ((numB n).length : Int), .int .i64 0]
   else again (((acc + cc % 128 * 2 ^ (7 * i) : Nat) : Int), ((i + 1 : Nat) : Int)) h2) := by
  refine ⟨h7, ?_⟩;refine hcase.elim (fun hh => ?_) (fun hh => ?_)
  · have hm1 := hh.1;have ht1 := hh.2.2;have hcm1 := hh.2.1;rw [decide_eq_true (show (cc : Int) < 128 by omega), cond_true];refine ⟨rfl, ?_⟩;rw [hlen, hcm, Nat.mod_eq_of_lt hm1, hm, ht1]
    rfl
  · have hm1 := hh.1;have ht1 := hh.2.2;have hc1 := hh.2.1;rw [decide_eq_false (show ¬ (cc : Int) < 128 by omega), cond_false];refine go _ _ ⟨rfl, i + 1, _, m / 128, pre ++ [cc], rfl, by rw [hp, ht, ht1, List.append_assoc]; rfl, by rw [List.length_append, hi]; rfl, ?_, ?_, fun _ => Nat.div_pos (by omega) (by decide)⟩ (by simp only [Int.toNat_natCast]; omega)
    · have e1 : 2 ^ (7 * (i + 1)) = 128 * 2 ^ (7 * i) := by rw [Nat.mul_add, Nat.pow_add, Nat.mul_comm]
      have e2 : cc % 128 * 2 ^ (7 * i) ≤ 127 * 2 ^ (7 * i) := Nat.mul_le_mul_right _ (by omega);rw [e1];omega
    · have e1 : 2 ^ (7 * (i + 1)) = 128 * 2 ^ (7 * i) := by rw [Nat.mul_add, Nat.pow_add, Nat.mul_comm]
      rw [e1, ← Nat.mul_assoc, Nat.add_assoc, ← Nat.add_mul, hcm, ← hm];congr 2;omega
 rw [← hstep, ← hwr] at tail
 dsimp only
 rw [h9, cond_false]
 by_cases h0 : 0 < i
 · rw [decide_eq_true (show (i : Int) > 0 by omega), cond_true];have hcz : ((cc : Int) == 0) = false := by
    rw [beq_eq_false_iff_ne];have := hz h0
    rcases hcase with ⟨_, h, _⟩ | ⟨_, h, _⟩ <;> omega
   rw [hcz, cond_false];exact tail
 · rw [decide_eq_false (show ¬ (i : Int) > 0 by omega), cond_false];exact tail
def readerP (rb : Nat) (xs : List Nat) : HProp := exi fun q : Option Addr × Nat => Many [pur (xs.length ≤ q.2 ∧ xs.length ≤ 1099511627776), pt rb (.cells #[.slice q.1 xs.length q.2] 281 (0, 0)), roP (fun h => RdC h q.1 (xs.map nv))]
theorem readerP_open {rb : Nat} {xs : List Nat} (H : sat (readerP rb xs :: F) h) : ∃ a c, xs.length ≤ c ∧ xs.length ≤ 1099511627776 ∧ sat (pt rb (.cells #[.slice a xs.length c] 281 (0, 0)) :: roP (fun h => RdC h a (xs.map nv)) :: F) h := by
 obtain ⟨⟨a, c⟩, H2⟩ := sat_exi.1 H
 obtain ⟨⟨h1, h2⟩, H3⟩ := sat_pur.1 H2.open
 exact ⟨a, c, h1, h2, H3⟩
theorem readerP_shut {rb c : Nat} {a : Option Addr} {xs : List Nat} (h1 : xs.length ≤ c) (h2 : xs.length ≤ 1099511627776) (H : sat (pt rb (.cells #[.slice a xs.length c] 281 (0, 0)) :: roP (fun h => RdC h a (xs.map nv)) :: F) h) : sat (readerP rb xs :: F) h :=
 sat_exi.2 ⟨(a, c), sat.shut (m := [_, _, _]) (sat_pur.2 ⟨⟨h1, h2⟩, H⟩)⟩
theorem drop_pre (p t : List Nat) : (p ++ t).drop p.length = t := by simp
theorem F183_spec {rb n : Nat} {rest : List Nat} (hn : n < 72057594037927936) (H : sat (readerP rb (numB n ++ rest) :: F) h) :
  CallsH Tryz.prog 183 [ptrV rb] h fun v h' => v = .int .u64 (n : Int) ∧ sat (readerP rb rest :: F) h' := by
 apply F183_ok.ap
 unfold F183
 obtain ⟨a, c, hc, hl, H2⟩ := readerP_open H
 rw [NN'_some]
 refine LdSl H2 rfl ?_
 refine (F228_spec (c := c) hn hl (roP_get (H2.mv 1))).mono ?_
 rintro v h1 ⟨rfl, rfl⟩
 refine ⟨(n : Int), ((numB n).length : Int), 0, rfl, ?_⟩
 rw [show ((0 : Int) != 0) = false from rfl, cond_false, NN'_some]
 refine LdSl H2 rfl ?_
 have hlen : (numB n ++ rest).length = (numB n).length + rest.length := List.length_append
 refine SlV_nat (lo := (numB n).length) (hi := (numB n ++ rest).length) (mx := c) (by omega) hc (Nat.le_refl _) ?_
 rw [NN'_some, addr_add0]
 have e : (numB n ++ rest).length - (numB n).length = rest.length := by omega
 rw [e]
 refine StCC H2 (by exact Nat.zero_lt_one) rfl fun h2 H3 => ?_
 refine ⟨rfl, readerP_shut (a := subA a (numB n).length c 1) (c := c - (numB n).length) (by omega) (by omega) ?_⟩
 refine (roP_mono (fun h hh => ?_) (H3.mv 1)).mv 1
 have := RdC.sub hh (numB n).length rest.length c (by omega)
 rw [← List.map_drop, drop_pre, List.take_of_length_le (by rw [List.length_map]; exact Nat.le_refl _)] at this
 exact this
theorem F184_spec {rb : Nat} {w rest : List Nat} (H : sat (readerP rb (w ++ rest) :: F) h) :
  CallsH Tryz.prog 184 [ptrV rb, .int .u64 (w.length : Int)] h fun v h' => ∃ a c, v = .slice a w.length c ∧ sat (roP (fun h => RdC h a (w.map nv)) :: readerP rb rest :: F) h' := by
 apply F184_ok.ap
 unfold F184
 obtain ⟨a, c, hc, hl, H2⟩ := readerP_open H
 have hlen : (w ++ rest).length = w.length + rest.length := List.length_append
 rw [NN'_some]
 refine LdSl H2 rfl ?_
 rw [IntWalk.u64_in _ (by omega), decide_eq_false (show ¬ ((w.length : Int) > ((w ++ rest).length : Int)) by omega), cond_false, NN'_some]
 refine LdSl H2 rfl ?_
 refine SlV_nat (lo := 0) (hi := w.length) (mx := c) (Nat.zero_le _) (by omega) (Nat.le_refl _) ?_
 rw [NN'_some]
 refine LdSl H2 rfl ?_
 refine SlV_nat (lo := w.length) (hi := (w ++ rest).length) (mx := c) (by omega) hc (Nat.le_refl _) ?_
 rw [NN'_some, addr_add0]
 have e : (w ++ rest).length - w.length = rest.length := by omega
 rw [e, Nat.sub_zero]
 refine StCC H2 (by exact Nat.zero_lt_one) rfl fun h2 H3 => ?_
 refine ⟨_, _, rfl, ?_⟩
 have H4 := roP_dup (H3.mv 1)
 have H5 := roP_mono (S := fun h => RdC h (subA a 0 c 1) (w.map nv)) (fun h hh => by
  have := RdC.sub hh 0 w.length c (by omega);rw [List.drop_zero, ← List.map_take, List.take_left'] at this
  · exact this
  · rfl) H4
 have H8 := roP_mono (S := fun h => RdC h (subA a w.length c 1) (rest.map nv)) (fun h hh => by
  have := RdC.sub hh w.length rest.length c (by omega);rw [← List.map_drop, drop_pre, List.take_of_length_le (by rw [List.length_map]; exact Nat.le_refl _)] at this;exact this) (H5.mv 1)
 exact (readerP_shut (a := subA a w.length c 1) (c := c - w.length) (by omega) (by omega) (H8.ordT 3 [2, 0, 1])).mv 1
theorem F113_spec {rb : Nat} {w rest : List Nat} (h8 : B8 w) (hw : w.length < 72057594037927936) (H : sat (readerP rb (wordB w ++ rest) :: F) h) :
  CallsH Tryz.prog 113 [ptrV rb] h fun v h' => v = .string (ofN w) ∧ sat (readerP rb rest :: F) h' := by
 apply F113_ok.ap
 unfold F113
 unfold wordB at H
 rw [List.append_assoc] at H
 refine (F183_spec hw H).mono ?_
 rintro v h1 ⟨rfl, H1⟩
 refine ⟨_, rfl, ?_⟩
 refine (F184_spec H1).mono ?_
 rintro v h2 ⟨a, c, rfl, H2⟩
 rw [DSl_slice]
 exact ⟨ofN w, bytesIn_of (roP_get H2) rfl h8, rfl, H2.drop⟩
end
section
variable {F : List HProp} {h : Heap}
theorem word_lt {s : ByteArray} {rest : List Nat} (hl : (wordB (sb s) ++ rest).length ≤ 1099511627776) : (sb s).length < 72057594037927936 := by
 unfold wordB at hl
 simp only [List.length_append] at hl
 omega
theorem F113_text {rb : Nat} {s : ByteArray} {rest : List Nat} (H : sat (readerP rb (wordB (sb s) ++ rest) :: F) h) :
  CallsH Tryz.prog 113 [ptrV rb] h fun v h' => v = .string s ∧ sat (readerP rb rest :: F) h' := by
 obtain ⟨a, c, _, hl, _⟩ := readerP_open H
 have := F113_spec (sb_B8 s) (word_lt hl) H
 rwa [ofN_sb] at this
theorem F112_spec {cb rb : Nat} {p : ByteArray × ByteArray} {rest : List Nat} (H : sat (pt cb (.cells #[ptrV rb] 194 (0, 0)) :: readerP rb (pairB (sb p.1, sb p.2) ++ rest) :: F) h) :
  CallsH Tryz.prog 112 [.pointer (some ⟨cb, 0, none⟩)] h fun v h' => v = .agg #[.string p.1, .string p.2] ∧ sat (pt cb (.cells #[ptrV rb] 194 (0, 0)) :: readerP rb rest :: F) h' := by
 apply F112_ok.ap
 unfold F112
 refine Al_sat H fun b0 h1 H1 => ?_
 refine VPt (H1.mv 1).get ?_
 refine VPt (H1.mv 1).get ?_
 unfold pairB at H1
 rw [List.append_assoc] at H1
 refine (F113_text (H1.mv 2)).mono ?_
 rintro v h2 ⟨rfl, H2⟩
 rw [DS_string]
 refine ⟨VPt (H2.mv 2).get rfl, ?_⟩
 refine (F113_text H2).mono ?_
 rintro v h3 ⟨rfl, H3⟩
 rw [DS_string]
 simp only [addr_add0]
 refine StC_sat (H3.mv 1) (by decide) (nofz_zero 2 0 (by decide)) fun h4 H4 => ?_
 refine StC_sat (i := 1) H4 (by simp) (nofz_zero 2 1 (by decide)) fun h5 H5 => ?_
 have H6 : sat (pt b0 (.cells #[.string p.1, .string p.2] 96 (0, 0)) :: readerP rb rest :: pt cb (.cells #[ptrV rb] 194 (0, 0)) :: F) h5 := H5
 refine ⟨.string p.1, by rw [cellAt_of H6.get]; rfl, ?_⟩
 refine ⟨.string p.2, cell_pt (i := 1) H6 rfl, p.1, p.2, rfl, rfl, ?_⟩
 exact (H6.drop).mv 1
theorem numB_pos (n : Nat) : 0 < (numB n).length := by
 obtain ⟨c, t, h, _⟩ := numB_head n
 rw [h, List.length_cons]
 omega
theorem pairs_long (ps : List (ByteArray × ByteArray)) : ps.length ≤ (ps.flatMap fun p => pairB (sb p.1, sb p.2)).length := by
 induction ps with
 | nil => exact Nat.le_refl _
 | cons p ps ih =>
   rw [List.flatMap_cons, List.length_append, List.length_cons];have : 0 < (pairB (sb p.1, sb p.2)).length := by
    unfold pairB wordB;simp only [List.length_append];have := numB_pos (sb p.1).length;omega
   omega
set_option maxHeartbeats 1000000 in
theorem F111_spec {cb rb : Nat} {ps : List (ByteArray × ByteArray)} (H : sat (pt cb (.cells #[ptrV rb] 194 (0, 0)) :: readerP rb (pairsN ps) :: F) h) :
  CallsH Tryz.prog 111 [ptrV rb, .func (.func 112) #[] #[.pointer (some ⟨cb, 0, none⟩)]] h fun v h' => ∃ a c, v = .slice a ps.length c ∧ sat (ownS 96 2 a ps.length c (ps.flatMap pairC) :: pt cb (.cells #[ptrV rb] 194 (0, 0)) :: readerP rb [] :: F) h' := by
 apply F111_ok.ap
 unfold F111
 obtain ⟨_, _, _, hl, _⟩ := readerP_open (H.mv 1)
 rw [← preN_all] at H hl
 unfold preN at H hl
 have hlong := pairs_long ps
 have hlt : ps.length ≤ 1099511627776 := by rw [List.length_append] at hl; omega
 refine (F183_spec (by omega) (H.mv 1)).mono ?_
 rintro v h1 ⟨rfl, H1⟩
 refine ⟨_, rfl, ?_⟩
 obtain ⟨a, c, hc, hl2, H2⟩ := readerP_open H1
 rw [NN'_some]
 refine LdSl H2 rfl ?_
 rw [IntWalk.u64_in _ (by omega), decide_eq_false (show ¬ ((ps.length : Int) > _) by omega), cond_false]
 refine LoopH.upto ps.length (fun i (s : Sl × Int) h2 => s.2 = (i : Int) ∧ i ≤ ps.length ∧ s.1.l = i ∧ sat (ownS 96 2 s.1.a i s.1.c ((ps.take i).flatMap pairC) :: pt cb (.cells #[ptrV rb] 194 (0, 0)) :: readerP rb ((ps.drop i).flatMap fun p => pairB (sb p.1, sb p.2)) :: F) h2) (fun s => ps.length - s.2.toNat) (fun i s h2 hh => ⟨hh.2.1, by rw [hh.1]; omega⟩)
  ⟨rfl, Nat.zero_le _, rfl, ownS_nil 96 2 (H1.mv 1)⟩ ?_ ?_
 · rintro i ⟨⟨sa, sl, sc⟩, s2⟩ h2 again hi ⟨rfl, _, hsl, H3⟩ go;dsimp only at hsl H3 ⊢;subst hsl;rw [decide_eq_true (show ((sl : Int) < (ps.length : Int)) by omega), cond_true];obtain ⟨p, hp⟩ : ∃ x, ps[sl]? = some x := ⟨_, List.getElem?_eq_getElem hi⟩
   have hd : ps.drop sl = p :: ps.drop (sl + 1) := by
    rw [List.drop_eq_getElem_cons hi];congr 1;have := List.getElem?_eq_getElem hi;rw [hp] at this;exact (Option.some.inj this).symm
   rw [hd, List.flatMap_cons] at H3;refine CallV_fn ?_;refine (F112_spec (p := p) (H3.mv 1 |>.ordT 3 [0, 2, 1])).mono ?_;rintro v h3 ⟨rfl, H4⟩;refine ⟨p.1, p.2, rfl, ?_⟩;refine Al_sat H4 fun b0 h4 H5 => ?_;refine appendN u144 src144 inf146 (H5.mv 3) (n := 1) (ys := pairC p) (srcOf_slice (RdCf H5 rfl) rfl) (by intro u hu; simp [pairC] at hu; rcases hu with rfl | rfl <;> rfl) (by omega) fun a' c' h5 _ H6 => ?_;rw [DSl_slice];have e : IntKind.wrap .u64 ((sl : Int) + 1) = ((sl + 1 : Nat) : Int) := by rw [IntWalk.u64_in _ (by omega)]; omega
   rw [e];refine go _ _ ⟨rfl, by omega, rfl, ?_⟩;dsimp only;have e2 : (ps.take (sl + 1)).flatMap pairC = (ps.take sl).flatMap pairC ++ pairC p := by
    rw [List.take_add_one, hp, List.flatMap_append];simp
   rw [e2];exact H6.ordT 4 [0, 2, 3]
 · rintro ⟨⟨sa, sl, sc⟩, s2⟩ h2 again ⟨rfl, _, hsl, H3⟩;dsimp only at hsl H3 ⊢;subst hsl;rw [decide_eq_false (by omega), cond_false];rw [List.take_length, List.drop_length] at H3;exact ⟨sa, sc, rfl, H3⟩
theorem F110_spec {rb : Nat} {ps : List (ByteArray × ByteArray)} (H : sat (readerP rb (pairsN ps) :: F) h) :
  CallsH Tryz.prog 110 [ptrV rb] h fun v h' => ∃ a c, v = .slice a ps.length c ∧ sat (ownS 96 2 a ps.length c (ps.flatMap pairC) :: readerP rb [] :: F) h' := by
 apply F110_ok.ap
 unfold F110
 refine Al_sat H fun b0 h1 H1 => ?_
 refine VPt H1.get ?_
 refine (F111_spec H1).mono ?_
 rintro v h2 ⟨a, c, rfl, H2⟩
 rw [DSl_slice]
 exact ⟨a, c, rfl, H2.ordT 3 [0, 2]⟩
theorem F33_spec {a : Option Addr} {c : Nat} {ps : List (ByteArray × ByteArray)} (hc : (pairsN ps).length ≤ c) (hl : (pairsN ps).length ≤ 16777216) (hR : RdC h a ((pairsN ps).map nv)) (H : sat (roP (fun h => RdC h a ((pairsN ps).map nv)) :: F) h) :
  CallsH Tryz.prog 33 [.slice a (pairsN ps).length c] h fun v h' => ∃ a' c', v = .tuple #[.slice a' ps.length c', .int .i64 0] ∧ sat (ownS 96 2 a' ps.length c' (ps.flatMap pairC) :: F) h' := by
 apply F33_ok.ap
 unfold F33
 refine CallsH.mono (Q := fun v h' => ∃ a' c', v = .tuple #[.slice a' ps.length c', .int .i64 0] ∧ sat (ownS 96 2 a' ps.length c' (ps.flatMap pairC) :: F) h') ?_ ?_
 · apply F109_ok.ap;unfold F109;refine Al_sat H fun b1 h1 H1 => ?_;refine Al_sat H1 fun b2 h2 H2 => ?_;refine Al_sat H2 fun b3 h3 H3 => ?_;have H4 : sat (readerP b3 (pairsN ps) :: pt b2 (.cells #[.int .i64 0] 25 (0, 0)) :: pt b1 (.cells #[.slice none 0 0] 91 (0, 0)) :: F) h3 := readerP_shut (a := a) hc (by omega) (H3.ordT 4 [0, 3, 1, 2]);refine CallV_fn ?_;refine (F110_spec H4).mono ?_;rintro v h4 ⟨a4, c4, rfl, H5⟩;rw [DSl_slice];refine StCC (H5.mv 3) (by exact Nat.zero_lt_one) rfl fun h5 H6 => ?_;obtain ⟨a5, c5, _, _, H7⟩ := readerP_open (H6.mv 2);refine LdSl H7 rfl ?_;rw [show decide ((([] : List Nat).length : Int) > 0) = false from rfl, cond_false, decide_eq_false (show ¬ (((pairsN ps).length : Int) > 16777216) by omega), cond_false];refine VSl (H7.mv 2).get ?_;refine StCC (H7.mv 2) (by exact Nat.zero_lt_one) rfl fun h6 H8 => ?_;refine StCC (H8.mv 4) (by exact Nat.zero_lt_one) rfl fun h7 H9 => ?_;refine F182_idle ?_;refine VSl (H9.mv 1).get ?_;refine VIn H9.get ?_;exact ⟨a4, c4, rfl, H9.ordT 5 [4]⟩
 · rintro v h' ⟨a', c', rfl, H'⟩;exact ⟨a', _, c', 0, rfl, a', c', rfl, H'⟩
end
theorem setT_snoc {α : Type} {k : Int} {x : α} : ∀ {T : List (Int × α)}, (∀ p ∈ T, p.1 < k) → setT k x T = T ++ [(k, x)]
 | [], _ => rfl
 | p :: T, h => by
   have h1 := h p (List.mem_cons_self ..);unfold setT;rw [if_neg (by omega), if_neg (by omega), setT_snoc (fun q hq => h q (List.mem_cons_of_mem _ hq))]
   rfl
theorem topT_lt {α : Type} {k : Int} (hk : -1 < k) {T : List (Int × α)} (h : ∀ p ∈ T, p.1 < k) : topT T < k := by
 unfold AF.topT
 have : ∀ (l : List Int) (a : Int), a < k → (∀ x ∈ l, x < k) → l.foldl max a < k := by
  intro l
  induction l with
  | nil => intro a ha _; exact ha
  | cons y l ih =>
    intro a ha hl;have := hl y (List.mem_cons_self ..);exact ih _ (by omega) fun x hx => hl x (List.mem_cons_of_mem _ hx)
 exact this _ _ hk fun x hx => by
  obtain ⟨p, hp, rfl⟩ := List.mem_map.1 hx;exact h p hp
theorem take_lt {α : Type} {D : List (Int × α)} (hu : UpT D) {i : Nat} {p : Int × α} (hp : D[i]? = some p) : ∀ q ∈ D.take i, q.1 < p.1 := by
 intro q hq
 obtain ⟨j, hj⟩ := List.mem_iff_getElem?.1 hq
 rw [List.getElem?_take] at hj
 split at hj
 · rename_i hji;obtain ⟨b1, c1⟩ := List.getElem?_eq_some_iff.1 hj;obtain ⟨b2, c2⟩ := List.getElem?_eq_some_iff.1 hp;have := List.pairwise_iff_getElem.1 hu j i b1 b2 hji;rw [c1, c2] at this;exact this
 · cases hj
theorem natOf_id {n : Int} (h : IdOk n) : ((natOf n : Nat) : Int) = n ∧ natOf n < 9223372036854775808 := by
 obtain ⟨h0, h1⟩ := h
 have e : n = ((n.toNat : Nat) : Int) := by omega
 rw [e, natOf_nat (by omega)]
 exact ⟨rfl, by omega⟩
theorem pairB_le {p : ByteArray × ByteArray} {ps : List (ByteArray × ByteArray)} (h : p ∈ ps) : p.2.size ≤ (pairsN ps).length := by
 rw [← preN_all]
 unfold preN
 rw [List.length_append]
 have h1 : p.2.size ≤ (pairB (sb p.1, sb p.2)).length := by
  unfold pairB wordB;simp only [List.length_append, sb_length];omega
 have h2 : (pairB (sb p.1, sb p.2)).length ≤ (ps.flatMap fun p => pairB (sb p.1, sb p.2)).length := by
  induction ps with
  | nil => cases h
  | cons q ps ih =>
    rw [List.flatMap_cons, List.length_append]
    rcases List.mem_cons.1 h with rfl | h
    · omega
    · have := ih h;omega
 omega
section
variable {F : List HProp} {h : Heap}
set_option maxHeartbeats 1000000 in
theorem unfold_ok : UnfoldOk := by
 intro h F a c D hu htop hD hl H
 have hps : pairsN (psE D) = AF.pairsE D := psE_pairs fun p hp => (hD p hp).2
 rw [← hps] at H hl ⊢
 have hplen : (psE D).length = D.length := List.length_map _
 have hc : (pairsN (psE D)).length ≤ c := by
  rcases (ownS_cases H).2 with ⟨_, h0, _⟩ | ⟨_, _, _, _, h1, _⟩ <;> omega
 apply F130_ok.ap
 unfold F130
 refine (F33_spec (F := F) hc hl (ownS_read H) (roP_own H)).mono ?_
 rintro v h1 ⟨a1, c1, rfl, H1⟩
 refine ⟨a1, (psE D).length, c1, 0, rfl, ?_⟩
 rw [show ((0 : Int) != 0) = false from rfl, cond_false]
 have hne : D ≠ [] := by
  rintro rfl;exact absurd htop (by decide)
 have hpos : 0 < D.length := List.length_pos_iff.2 hne
 have hz : (((psE D).length : Int) == 0) = false := by
  rw [beq_eq_false_iff_ne];omega
 rw [hz, cond_false]
 refine Al_sat H1 fun b1 h2 H2 => ?_
 have hlong := pairs_long (psE D)
 have hlt : D.length ≤ 16777216 := by
  rw [← preN_all] at hl;unfold preN at hl;rw [List.length_append] at hl;omega
 refine LoopH.upto D.length (fun i (s : Int × Int) h3 => s.2 = (i : Int) ∧ i ≤ D.length ∧ s.1 = topT (D.take i) ∧ sat (tabM Bs b1 (D.take i) :: ownS 96 2 a1 (psE D).length c1 ((psE D).flatMap pairC) :: F) h3) (fun s => D.length - s.2.toNat) (fun i s h2 hh => ⟨hh.2.1, by rw [hh.1]; omega⟩)
  ⟨rfl, Nat.zero_le _, rfl, tabM_new H2⟩ ?_ ?_
 · rintro i ⟨s1, s2⟩ h3 again hi ⟨rfl, _, hs1, H3⟩ go;dsimp only at hs1 H3 ⊢;subst hs1;rw [hplen, decide_eq_true (show ((i : Int) < (D.length : Int)) by omega), cond_true];obtain ⟨⟨n, x⟩, hx⟩ : ∃ x, D[i]? = some x := ⟨_, List.getElem?_eq_getElem hi⟩
   have hxm := List.mem_of_getElem? hx;have hid : IdOk n := (hD _ hxm).1;have h8 : B8 x := (hD _ hxm).2;have hpx : (psE D)[i]? = some (AF.hexN n, ofN x) := by
    unfold psE;rw [List.getElem?_map, hx]
    rfl
   have hszx : (ofN x).size ≤ 16777216 := by
    have := pairB_le (List.mem_of_getElem? hpx);simp only at this;omega
   refine IdxC (f := pairC) (sz := 2) (x := (AF.hexN n, ofN x)) pairC_len (by decide) (ownS_read (H3.mv 1)) hplen hpx fun b hb hc => ?_;refine ⟨.string (AF.hexN n), hc 0 _ rfl, .string (ofN x), hc 1 _ rfl, AF.hexN n, ofN x, rfl, ?_⟩;refine Al_sat H3 fun b2 h4 H4 => ?_;simp only [addr_add0];refine StC_sat H4 (by decide) (nofz_zero 2 0 (by decide)) fun h5 H5 => ?_;refine StC_sat (i := 1) H5 (by simp) (nofz_zero 2 1 (by decide)) fun h6 H6 => ?_;have H7 : sat (pt b2 (.cells #[.string (AF.hexN n), .string (ofN x)] 96 (0, 0)) :: tabM Bs b1 (D.take i) :: ownS 96 2 a1 (psE D).length c1 ((psE D).flatMap pairC) :: F) h6 := H6;refine ⟨.string (AF.hexN n), by rw [cellAt_of H7.get]; rfl, AF.hexN n, rfl, ?_⟩;have hdg : sb (AF.hexN n) = digs 16 (natOf n) := sb_ofN (Hex.digs_B8 16 _);have hsz : (AF.hexN n).size ≤ 4000 := by
    rw [← sb_length, hdg, Hex.digs_length];decide
   refine (F37_spec hsz H7).mono ?_;rintro v h7 ⟨rfl, H8⟩;obtain ⟨hn1, hn2⟩ := natOf_id hid;have hun : unhexV (Hex.unhex (sb (AF.hexN n))) = .tuple #[.int .i64 n, .bool true] := by
    rw [hdg, Hex.unhex_digs (by omega), if_pos hn2];unfold unhexV;simp only [Option.getD_some, Option.isSome_some, hn1]
   rw [hun];refine ⟨n, true, rfl, ?_⟩;rw [Bool.not_true, cond_false];have hlt2 : topT (D.take i) < n := topT_lt (by have := hid.1; omega) (take_lt hu hx);rw [decide_eq_false (show ¬ (n ≤ topT (D.take i)) by omega), cond_false];refine ⟨.string (ofN x), cell_pt (i := 1) H8 rfl, ofN x, rfl, ?_⟩;refine cText H8 (by unfold maxLen; omega) fun ca cc h8' H9 => ?_;rw [DSl_slice];have hxl : (ofN x).size = x.length := by rw [← sb_length, sb_ofN h8]
   have H10 := roP_mono (S := Bs x (.slice ca (ofN x).size cc)) (fun h hh => by
    rw [sb_ofN h8] at hh;exact ⟨ca, cc, by rw [hxl], hh⟩) (roP_own H9)
   refine tab_set (kt := 2) (et := 85) (x := x) (by kernel_rfl) (by kernel_rfl) (H10.ordT 3 [2, 0]) fun h9 H11 => ?_;rw [wrap64_succ (by omega)];have htk : D.take (i + 1) = D.take i ++ [(n, x)] := by rw [List.take_add_one, hx]; rfl
   have hset : setT n x (D.take i) = D.take (i + 1) := by rw [htk, setT_snoc (take_lt hu hx)]
   rw [hset] at H11;refine go _ _ ⟨rfl, by omega, ?_, H11⟩;rw [htk, topT_snoc (by rw [← htk]; exact List.Pairwise.sublist (List.take_sublist _ _) hu) hid.1]
 · rintro ⟨s1, s2⟩ h3 again ⟨rfl, _, hs1, H3⟩;dsimp only at hs1 H3 ⊢;subst hs1;rw [hplen, decide_eq_false (by omega), cond_false];rw [List.take_length] at H3 ⊢;refine ⟨b1, ?_, H3.ordT 2 [0]⟩;rw [show (topT D == topT D) = true from beq_self_eq_true _]
end
def unnumG : Nat → Nat → List Nat → Option (Nat × Nat)
 | _, _, [] => none
 | i, n, c :: l => if (i = 9 ∧ 1 < c) ∨ (0 < i ∧ c = 0) then none else if c < 128 then some (n + c % 128 * 2 ^ (7 * i), i + 1) else unnumG (i + 1) (n + c % 128 * 2 ^ (7 * i)) l
theorem pow7 {i : Nat} (hi : i ≤ 9) : 2 ^ (7 * i) ≤ 9223372036854775808 ∧ 2 ^ (7 * (i + 1)) = 128 * 2 ^ (7 * i) := by
 refine ⟨?_, by rw [Nat.mul_add, Nat.pow_add, Nat.mul_comm]⟩
 have : 2 ^ (7 * i) ≤ 2 ^ 63 := Nat.pow_le_pow_right (by decide) (by omega)
 exact this
theorem digit_bound {acc c i : Nat} (hi : i ≤ 9) (ha : acc < 2 ^ (7 * i)) (h9 : i = 9 → c ≤ 1) : c % 128 * 2 ^ (7 * i) < 18446744073709551616 ∧ acc + c % 128 * 2 ^ (7 * i) < 18446744073709551616 ∧ acc + c % 128 * 2 ^ (7 * i) < 2 ^ (7 * (i + 1)) := by
 obtain ⟨p1, p2⟩ := pow7 hi
 have e2 : c % 128 * 2 ^ (7 * i) ≤ 127 * 2 ^ (7 * i) := Nat.mul_le_mul_right _ (by omega)
 by_cases h : i = 9
 · have h1 := h9 h;have e3 : c % 128 * 2 ^ (7 * i) ≤ 1 * 2 ^ (7 * i) := Nat.mul_le_mul_right _ (by omega);rw [p2];omega
 · have p3 : 2 ^ (7 * i) ≤ 2 ^ 56 := Nat.pow_le_pow_right (by decide) (by omega);have p4 : (2 : Nat) ^ 56 = 72057594037927936 := by decide
   rw [p2];omega
theorem digit_step2 {acc c i : Nat} (hc : c < 256) (hi : i ≤ 9) (ha : acc < 2 ^ (7 * i)) (h9 : i = 9 → c ≤ 1) :
  bitsI .or .u64 (acc : Int) (shlI .u64 (IntKind.wrap .u64 (bitsI .and .u8 (c : Int) 127)) (IntKind.wrap .i64 (7 * (i : Int)))) = ((acc + c % 128 * 2 ^ (7 * i) : Nat) : Int) := by
 obtain ⟨b1, b2, b3⟩ := digit_bound hi ha h9
 obtain ⟨p1, _⟩ := pow7 hi
 rw [and127 hc, IntWalk.u64_in _ (by omega)]
 have e : IntKind.wrap .i64 (7 * (i : Int)) = ((7 * i : Nat) : Int) := by rw [IntWalk.i64_in _ (by omega)]; omega
 rw [e, shl64 (by omega) b1, or64 (by omega) b1, or_shl ha]
def unnumV : Option (Nat × Nat) → Value
 | some (n, k) => .tuple #[.int .u64 (n : Int), .int .i64 (k : Int), .int .i64 0]
 | none => .tuple #[.int .u64 0, .int .i64 0, .int .i64 41]
section
variable {F : List HProp} {h : Heap}
set_option maxHeartbeats 1000000 in
set_option maxRecDepth 20000 in
theorem F228_gen {a : Option Addr} {c : Nat} {bs : List Nat} (h8 : B8 bs) (hl : bs.length ≤ 1099511627776) (hR : RdC h a (bs.map nv)) :
  CallsH Tryz.prog 228 [.slice a bs.length c] h fun v h' => h' = h ∧ v = unnumV (unnumG 0 0 bs) := by
 apply F228_ok.ap
 unfold F228
 refine LoopH.by (fun s h2 => h2 = h ∧ ∃ (i acc : Nat), s = ((acc : Int), (i : Int)) ∧ i ≤ bs.length ∧ i ≤ 9 + 1 ∧ (i ≤ 9 ∨ False) ∧ acc < 2 ^ (7 * i) ∧ unnumG 0 0 bs = unnumG i acc (bs.drop i)) (fun s => 10 - s.2.toNat) ⟨rfl, 0, 0, rfl, Nat.zero_le _, by decide, .inl (by decide), by decide, rfl⟩ ?_
 rintro s h2 again ⟨rfl, i, acc, rfl, hi, _, h99, ha, hg⟩ go
 have hi9 : i ≤ 9 := h99.resolve_right id
 dsimp only
 by_cases hil : i < bs.length
 rotate_left
 · rw [decide_eq_false (show ¬ ((i : Int) < (bs.length : Int)) by omega), cond_false];refine ⟨rfl, ?_⟩;rw [hg, List.drop_of_length_le (by omega)]
   rfl
 rw [decide_eq_true (show ((i : Int) < (bs.length : Int)) by omega), cond_true]
 obtain ⟨cc, hcc⟩ : ∃ x, bs[i]? = some x := ⟨_, List.getElem?_eq_getElem hil⟩
 have hc8 : cc < 256 := h8 _ (List.mem_of_getElem? hcc)
 have hdrop : bs.drop i = cc :: bs.drop (i + 1) := by
  rw [List.drop_eq_getElem_cons hil];rw [List.getElem?_eq_getElem hil] at hcc;rw [Option.some.inj hcc]
 rw [hdrop] at hg
 refine IdxA_nat hR (by rw [List.length_map]) (by rw [List.getElem?_map, hcc]; rfl) fun b hb hcell => ⟨nv cc, hcell, (cc : Int), rfl, ?_⟩
 have hwr : IntKind.wrap .i64 ((i : Int) + 1) = ((i + 1 : Nat) : Int) := by rw [IntWalk.i64_in _ (by omega)]; omega
 have h7 : (0 : Int) ≤ IntKind.wrap .i64 (7 * (i : Int)) := by rw [IntWalk.i64_in _ (by omega)]; omega
 have bad : ((i = 9 ∧ 1 < cc) ∨ (0 < i ∧ cc = 0)) → unnumV (unnumG 0 0 bs) = .tuple #[.int .u64 0, .int .i64 0, .int .i64 41] := fun hb => by
  rw [hg];unfold unnumG;rw [if_pos hb]
  rfl
 have tail : ¬ ((i = 9 ∧ 1 < cc) ∨ (0 < i ∧ cc = 0)) → (0 : Int) ≤ IntKind.wrap .i64 (7 * (i : Int)) ∧ (bif decide ((cc : Int) < 128) then
   h2 = h2 ∧ Value.tuple #[.int .u64 (bitsI .or .u64 (acc : Int) (shlI .u64 (IntKind.wrap .u64 (bitsI .and .u8 (cc : Int) 127)) (IntKind.wrap .i64 (7 * (i : Int))))), .int .i64 (IntKind.wrap .i64 ((i : Int) + 1)), .int .i64 0] = unnumV (unnumG 0 0 bs)
   else again (bitsI .or .u64 (acc : Int) (shlI .u64 (IntKind.wrap .u64 (bitsI .and .u8 (cc : Int) 127)) (IntKind.wrap .i64 (7 * (i : Int)))), IntKind.wrap .i64 ((i : Int) + 1)) h2) := fun hno => by
  have h9 : i = 9 → cc ≤ 1 := fun e => by
   by_cases hc : 1 < cc
   · exact absurd (.inl ⟨e, hc⟩) hno
   · omega
  obtain ⟨b1, b2, b3⟩ := digit_bound hi9 ha h9;refine ⟨h7, ?_⟩;rw [digit_step2 hc8 hi9 ha h9, hwr]
  conv at hg => rhs; unfold unnumG
  rw [if_neg hno] at hg;by_cases hlt : cc < 128
  · rw [decide_eq_true (show (cc : Int) < 128 by omega), cond_true];rw [if_pos hlt] at hg;exact ⟨rfl, by rw [hg]; rfl⟩
  · rw [decide_eq_false (show ¬ (cc : Int) < 128 by omega), cond_false];rw [if_neg hlt] at hg;have hi8 : i ≤ 8 := by by_cases e : i = 9 <;> omega
    exact go _ _ ⟨rfl, i + 1, _, rfl, by omega, by omega, .inl (by omega), b3, hg⟩ (by simp only [Int.toNat_natCast]; omega)
 have zero : (bif decide ((i : Int) > 0) then (bif (cc : Int) == 0 then h2 = h2 ∧ Value.tuple #[.int .u64 0, .int .i64 0, .int .i64 41] = unnumV (unnumG 0 0 bs) else
    (0 : Int) ≤ IntKind.wrap .i64 (7 * (i : Int)) ∧ (bif decide ((cc : Int) < 128) then
   h2 = h2 ∧ Value.tuple #[.int .u64 (bitsI .or .u64 (acc : Int) (shlI .u64 (IntKind.wrap .u64 (bitsI .and .u8 (cc : Int) 127)) (IntKind.wrap .i64 (7 * (i : Int))))), .int .i64 (IntKind.wrap .i64 ((i : Int) + 1)), .int .i64 0] = unnumV (unnumG 0 0 bs)
   else again (bitsI .or .u64 (acc : Int) (shlI .u64 (IntKind.wrap .u64 (bitsI .and .u8 (cc : Int) 127)) (IntKind.wrap .i64 (7 * (i : Int)))), IntKind.wrap .i64 ((i : Int) + 1)) h2)) else
    (0 : Int) ≤ IntKind.wrap .i64 (7 * (i : Int)) ∧ (bif decide ((cc : Int) < 128) then
   h2 = h2 ∧ Value.tuple #[.int .u64 (bitsI .or .u64 (acc : Int) (shlI .u64 (IntKind.wrap .u64 (bitsI .and .u8 (cc : Int) 127)) (IntKind.wrap .i64 (7 * (i : Int))))), .int .i64 (IntKind.wrap .i64 ((i : Int) + 1)), .int .i64 0] = unnumV (unnumG 0 0 bs)
   else again (bitsI .or .u64 (acc : Int) (shlI .u64 (IntKind.wrap .u64 (bitsI .and .u8 (cc : Int) 127)) (IntKind.wrap .i64 (7 * (i : Int)))), IntKind.wrap .i64 ((i : Int) + 1)) h2)) ∨ (i = 9 ∧ 1 < cc) := by
  by_cases h19 : i = 9 ∧ 1 < cc
  · exact .inr h19
  refine .inl ?_;by_cases h0 : 0 < i
  · rw [decide_eq_true (show (i : Int) > 0 by omega), cond_true];by_cases hz : cc = 0
    · rw [keq (show (cc : Int) = 0 by omega), cond_true];exact ⟨rfl, (bad (.inr ⟨h0, hz⟩)).symm⟩
    · rw [kne (show ¬ (cc : Int) = 0 by omega), cond_false];exact tail (by omega)
  · rw [decide_eq_false (show ¬ (i : Int) > 0 by omega), cond_false];exact tail (by omega)
 dsimp only
 by_cases e9 : i = 9
 · rw [keq (show (i : Int) = 9 by omega), cond_true];by_cases h1 : 1 < cc
   · rw [decide_eq_true (show (cc : Int) > 1 by omega), cond_true, cond_true];exact ⟨rfl, (bad (.inl ⟨e9, h1⟩)).symm⟩
   · rw [decide_eq_false (show ¬ (cc : Int) > 1 by omega), cond_false];exact zero.resolve_right (by omega)
 · rw [kne (show ¬ (i : Int) = 9 by omega), cond_false];exact zero.resolve_right (by omega)
end
end Go.Proofs.YtibdiikcigokjaaGreatDoor
