/- Digits and their numbers. -/
import Derived.Test.YtibdiikcigokjaaGreatDoorKsPlA
namespace Go.Proofs.YtibdiikcigokjaaGreatDoor
open Go Go.RowKit
set_option linter.unusedVariables false
set_option linter.unusedSimpArgs false
namespace Hex
def hv (c : Nat) : Option Nat := if 48 ≤ c ∧ c ≤ 57 then some (c - 48) else if 97 ≤ c ∧ c ≤ 102 then some (c - 87) else none
def uh : List Nat → Nat → Option Nat
 | [], a => some a
 | c :: l, a => match hv c with
   | some k => uh l (16 * a + k)
   | none => none
def unhex (s : List Nat) : Option Nat := if s.length = 16 then match uh s 0 with
    | some v => if v < 9223372036854775808 then some v else none
    | none => none
 else none
theorem hv_le {c k : Nat} (h : hv c = some k) : k ≤ 15 := by
 unfold hv at h
 split at h
 · cases h; omega
 · split at h
   · cases h; omega
   · cases h
theorem uh_append : ∀ (a b : List Nat) (x : Nat), uh (a ++ b) x = (uh a x).bind (uh b)
 | [], b, x => rfl
 | c :: a, b, x => by
   rw [List.cons_append];unfold uh
   cases hv c with
   | none => rfl
   | some k => exact uh_append a b _
theorem uh_digs : ∀ (k m a : Nat), uh (digs k m) a = some (a * 16 ^ k + m % 16 ^ k)
 | 0, m, a => by simp [digs, uh, Nat.mod_one]
 | k + 1, m, a => by
   have hd : hv (hexd (m / 16 ^ k % 16)) = some (m / 16 ^ k % 16) := by
    have h : m / 16 ^ k % 16 < 16 := Nat.mod_lt _ (by omega);generalize m / 16 ^ k % 16 = x at h;unfold hv hexd;split
    · rw [if_pos (by omega)];congr 1;omega
    · rw [if_neg (by omega), if_pos (by omega)];congr 1;omega
   rw [digs];unfold uh;rw [hd];simp only;rw [uh_digs k m, Nat.mod_pow_succ, Nat.pow_succ];congr 1;rw [Nat.add_mul, show 16 * a * 16 ^ k = a * (16 ^ k * 16) from by rw [Nat.mul_comm 16 a, Nat.mul_assoc, Nat.mul_comm 16 (16 ^ k)], Nat.mul_comm (16 ^ k) (m / 16 ^ k % 16)];omega
theorem unhex_digs {m : Nat} (hm : m < 18446744073709551616) : unhex (digs 16 m) = if m < 9223372036854775808 then some m else none := by
 unfold unhex
 rw [if_pos (digs_length 16 m), uh_digs]
 simp only [Nat.zero_mul, Nat.zero_add]
 rw [Nat.mod_eq_of_lt (show m < 16 ^ 16 from hm)]
end Hex
open Hex (hexd digs hv uh unhex)
theorem dig_index : ∀ c : Fin 256, Lib.indexByte [48, 49, 50, 51, 52, 53, 54, 55, 56, 57, 97, 98, 99, 100, 101, 102] (c.val).toUInt8 = (match hv c.val with
 | some k => ((k : Nat) : Int)
 | none => -1) := by decide +kernel
section
variable {F : List HProp} {h : Heap}
theorem F116_spec {c : Nat} (hc : c < 256) : CallsH Tryz.prog 116 [.string ⟨#[48, 49, 50, 51, 52, 53, 54, 55, 56, 57, 97, 98, 99, 100, 101, 102]⟩, .int .u8 (c : Int)] h fun v h' => h' = h ∧ v = .int .i64 (match hv c with
  | some k => ((k : Nat) : Int)
  | none => -1) := by
 refine ⟨by kernel_rfl, fun w hw => callsIn_wide.2 ((Tryz.strings_IndexByte _ _ w).mono ?_)⟩
 rintro e w' ⟨rfl, rfl⟩
 refine ⟨_, rfl, ⟨hw, ?_⟩, .refl w'⟩
 rw [Int.toNat_natCast]
 exact congrArg _ (dig_index ⟨c, hc⟩)
def unhexV (r : Option Nat) : Value := .tuple #[.int .i64 ((r.getD 0 : Nat) : Int), .bool r.isSome]
theorem pow16 {i : Nat} (hi : i ≤ 15) : 16 ^ i ≤ 1152921504606846976 := Nat.le_trans (Nat.pow_le_pow_right (by omega) hi) (by decide)
theorem F37_spec {s : ByteArray} (hz : s.size ≤ 4000) (H : sat F h) : CallsH Tryz.prog 37 [.string s] h fun v h' => v = unhexV (unhex (sb s)) ∧ sat F h' := by
 apply F37_ok.ap
 unfold F37
 refine cText H (Nat.le_trans hz (by decide)) fun a c h1 H1 => ?_
 rw [DSl_slice]
 have hsl := sb_length s
 have hrd := ownS_read H1
 have h8 := sb_B8 s
 refine ⟨fun st hh => hh = h1 ∧ ∃ (i n : Nat), st = ((n : Int), (i : Int)) ∧ i ≤ s.size ∧ uh ((sb s).take i) 0 = some n ∧ (0 < i → s.size = 16) ∧ n < 16 ^ i, fun st _ => ((s.size : Int) - st.2).toNat, ⟨rfl, 0, 0, rfl, Nat.zero_le _, rfl, fun h => by omega, by decide⟩, ?_⟩
 rintro st h2 ⟨rfl, i, n, rfl, hi, hn, h16, hlt⟩
 by_cases hil : i < s.size
 · rw [decide_eq_true (show ((i : Int) < (s.size : Int)) by omega), cond_true];obtain ⟨x, hx⟩ : ∃ x, (sb s)[i]? = some x := ⟨_, List.getElem?_eq_getElem (by omega)⟩
   have hx8 := h8 x (List.mem_of_getElem? hx);refine IdxA_nat (v := nv x) hrd (by rw [List.length_map]; exact hsl) (by rw [List.getElem?_map, hx]; rfl) fun ba hba hc => ⟨_, hc, ?_⟩
   show DI .u8 (.int .u8 (x : Int)) _;rw [DI_int];refine (F116_spec hx8).mono ?_;rintro v h3 ⟨rfl, rfl⟩;rw [DI_int];have htake : uh ((sb s).take (i + 1)) 0 = uh [x] n := by
    rw [List.take_add_one, hx];show uh ((sb s).take i ++ [x]) 0 = _;rw [Hex.uh_append, hn]
    rfl
   cases hvx : hv x with
   | none =>
     show bif decide ((-1 : Int) < 0) then _ else _
     rw [show decide ((-1 : Int) < 0) = true from rfl, cond_true];have : unhex (sb s) = none := by
      have hu : uh (sb s) 0 = none := by
       rw [← List.take_append_drop (i + 1) (sb s), Hex.uh_append, htake];unfold uh;rw [hvx]
       rfl
      unfold unhex;rw [hu];simp
     rw [this];exact ⟨rfl, H1.drop⟩
   | some k =>
     show bif decide (((k : Nat) : Int) < 0) then _ else _
     rw [decide_eq_false (by omega), cond_false];have hk := Hex.hv_le hvx;by_cases hs16 : s.size = 16
     · rw [show (((s.size : Nat) : Int) != 16) = false from by rw [hs16]; rfl, cond_false];refine ⟨by omega, ?_⟩;have hp := pow16 (show i ≤ 15 by omega);have w1 : shlI .u64 (n : Int) 4 = ((16 * n : Nat) : Int) := by
        unfold shlI;show IntKind.u64.wrap ((n : Int) * 2 ^ (min 4 64)) = _;rw [IntWalk.u64_in _ (by constructor <;> (simp; omega))];simp;omega
       have w2 : bitsI .or .u64 ((16 * n : Nat) : Int) (IntKind.wrap .u64 (k : Int)) = ((16 * n + k : Nat) : Int) := by
        rw [IntWalk.u64_in (k : Int) (by omega)];have hor : (16 * n) ||| k = 16 * n + k := or_add (i := 4) n (by omega)
        show IntKind.u64.wrap ((BitVec.ofInt 64 ((16 * n : Nat) : Int) ||| BitVec.ofInt 64 (k : Int)).toNat : Int) = _;rw [BitVec.ofInt_natCast, BitVec.ofInt_natCast, BitVec.toNat_or, BitVec.toNat_ofNat, BitVec.toNat_ofNat, Nat.mod_eq_of_lt (show 16 * n < 2 ^ 64 by omega), Nat.mod_eq_of_lt (show k < 2 ^ 64 by omega), hor];exact IntWalk.u64_in _ (by omega)
       rw [w1, w2, wrap64_succ (by omega)];refine ⟨⟨by trivial, i + 1, 16 * n + k, rfl, by omega, ?_, fun _ => hs16, ?_⟩, by show ((s.size : Int) - ((i + 1 : Nat) : Int)).toNat < ((s.size : Int) - (i : Int)).toNat; omega⟩
       · rw [htake];unfold uh;rw [hvx]
         rfl
       · rw [Nat.pow_succ];omega
     · rw [show (((s.size : Nat) : Int) != 16) = true from by rw [bne_iff_ne]; omega, cond_true];have : unhex (sb s) = none := by
        unfold unhex;rw [if_neg (by omega)]
       rw [this];exact ⟨rfl, H1.drop⟩
 · rw [decide_eq_false (by omega), cond_false];have ei : i = s.size := by omega
   subst ei;rw [List.take_of_length_le (by omega)] at hn;by_cases hs16 : s.size = 16
   · rw [show (((s.size : Nat) : Int) != 16) = false from by rw [hs16]; rfl, cond_false];refine ⟨by omega, ?_⟩;rw [hs16] at hlt;have hn64 : n < 18446744073709551616 := hlt;rw [show (63 : Int) = ((63 : Nat) : Int) from rfl, shrI_nat .u64 n 63 (by decide)];by_cases hbig : n < 9223372036854775808
     · have : n / 2 ^ 63 = 0 := Nat.div_eq_of_lt hbig;rw [this, show ((((0 : Nat) : Int)) == 1) = false from rfl, cond_false, wrap64_nat hbig];have hu : unhex (sb s) = some n := by
        unfold unhex;rw [if_pos (by omega), hn];simp only [if_pos hbig]
       rw [hu];exact ⟨rfl, H1.drop⟩
     · have : n / 2 ^ 63 = 1 := by omega
       rw [this, show ((((1 : Nat) : Int)) == 1) = true from rfl, cond_true];have hu : unhex (sb s) = none := by
        unfold unhex;rw [if_pos (by omega), hn];simp only [if_neg hbig]
       rw [hu];exact ⟨rfl, H1.drop⟩
   · rw [show (((s.size : Nat) : Int) != 16) = true from by rw [bne_iff_ne]; omega, cond_true];have : unhex (sb s) = none := by
      unfold unhex;rw [if_neg (by omega)]
     rw [this];exact ⟨rfl, H1.drop⟩
theorem F58_spec {n : Int} (H : sat F h) : CallsH Tryz.prog 58 [.int .i64 n] h fun v h' => v = .string (ofN (digs 16 (natOf n))) ∧ sat F h' := by
 apply F58_ok.ap
 unfold F58
 have hlt := natOf_lt n
 rw [natOf_eq n]
 generalize natOf n = m at hlt
 refine ⟨fun st hh => ∃ i : Nat, st = (((m / 16 ^ i : Nat) : Int), ofN (digs i m), (i : Int)) ∧ i ≤ 16 ∧ sat F hh, fun st _ => (16 - st.2.2).toNat, ⟨0, by rw [Nat.pow_zero, Nat.div_one]; rfl, Nat.zero_le _, H⟩, ?_⟩
 rintro st h1 ⟨i, rfl, hi, H1⟩
 by_cases hil : i < 16
 · rw [decide_eq_true (show ((i : Int) < 16) by omega), cond_true];refine ⟨by omega, ?_⟩;have hq : m / 16 ^ i < 18446744073709551616 := Nat.lt_of_le_of_lt (Nat.div_le_self _ _) hlt;have e16 : (16 : Int) = ((16 : Nat) : Int) := rfl;have hk : m / 16 ^ i % 16 < 16 := Nat.mod_lt _ (by omega);have w1 : IntKind.wrap .u8 (Int.tmod ((m / 16 ^ i : Nat) : Int) 16) = ((m / 16 ^ i % 16 : Nat) : Int) := by
    rw [e16, tmod_nat, u8_of_nat];congr 1;omega
   have w2 : IntKind.wrap .u64 (Int.tdiv ((m / 16 ^ i : Nat) : Int) 16) = ((m / 16 ^ (i + 1) : Nat) : Int) := by
    have e : m / 16 ^ i / 16 = m / 16 ^ (i + 1) := by rw [Nat.div_div_eq_div_mul, Nat.pow_succ]
    rw [e16, tdiv_nat, e];have hq2 : m / 16 ^ (i + 1) ≤ m := Nat.div_le_self _ _;generalize m / 16 ^ (i + 1) = q at hq2 ⊢;exact IntWalk.u64_in _ (by omega)
   simp only [w1, w2];have hcat : ofN [hexd (m / 16 ^ i % 16)] ++ ofN (digs i m) = ofN (digs (i + 1) m) := by
    apply sb_inj;have b1 : B8 [hexd (m / 16 ^ i % 16)] := fun x hx => by simp at hx; subst hx; exact Hex.hexd_lt hk
    rw [sb_append, sb_ofN b1, sb_ofN (Hex.digs_B8 i m), sb_ofN (Hex.digs_B8 (i + 1) m)]
    rfl
   have next : ∀ hx, sat F hx → (∃ j : Nat, (((m / 16 ^ (i + 1) : Nat) : Int), ofN (digs (i + 1) m), IntKind.wrap .i64 ((i : Int) + 1)) = (((m / 16 ^ j : Nat) : Int), ofN (digs j m), (j : Int)) ∧ j ≤ 16 ∧ sat F hx) ∧ (16 - IntKind.wrap .i64 ((i : Int) + 1)).toNat < (16 - (i : Int)).toNat := by
    intro hx Hx;rw [wrap64_succ (by omega)];exact ⟨⟨i + 1, rfl, by omega, Hx⟩, by omega⟩
   have hsz : (ofN (digs i m)).size = i := by rw [← sb_length, sb_ofN (Hex.digs_B8 i m), Hex.digs_length]
   have hsz1 : ∀ x, x < 256 → (ofN [x]).size = 1 := fun x hx => by rw [← sb_length, sb_ofN (fun y hy => by simp at hy; subst hy; exact hx)]; rfl
   by_cases h9 : 9 < m / 16 ^ i % 16
   · rw [decide_eq_true (by omega), cond_true];have w3 : IntKind.wrap .u8 (IntKind.wrap .u8 (97 + ((m / 16 ^ i % 16 : Nat) : Int)) - 10) = ((hexd (m / 16 ^ i % 16) : Nat) : Int) := by
      rw [IntWalk.u8_in (97 + ((m / 16 ^ i % 16 : Nat) : Int)) (by omega), IntWalk.u8_in _ (by omega)];unfold hexd;rw [if_neg (by omega)];omega
     rw [w3];refine Al_sat H1 fun b0 h2 H2 => ?_;refine ⟨ofN [hexd (m / 16 ^ i % 16)], bytesIn_of (RdCf H2 rfl) rfl (fun x hx => by simp at hx; subst hx; exact Hex.hexd_lt hk), ?_, by omega, ?_⟩
     · rw [hsz, hsz1 _ (Hex.hexd_lt hk)];omega
     · rw [hcat];exact next h2 H2.drop
   · rw [decide_eq_false (by omega), cond_false];have w3 : IntKind.wrap .u8 (48 + ((m / 16 ^ i % 16 : Nat) : Int)) = ((hexd (m / 16 ^ i % 16) : Nat) : Int) := by
      rw [IntWalk.u8_in _ (by omega)];unfold hexd;rw [if_pos (by omega)];omega
     rw [w3];refine Al_sat H1 fun b0 h2 H2 => ?_;refine ⟨ofN [hexd (m / 16 ^ i % 16)], bytesIn_of (RdCf H2 rfl) rfl (fun x hx => by simp at hx; subst hx; exact Hex.hexd_lt hk), ?_, by omega, ?_⟩
     · rw [hsz, hsz1 _ (Hex.hexd_lt hk)];omega
     · rw [hcat];exact next h2 H2.drop
 · rw [decide_eq_false (show ¬ ((i : Int) < 16) by omega), cond_false];have ei : i = 16 := by omega
   subst ei;exact ⟨rfl, H1⟩
end
end Go.Proofs.YtibdiikcigokjaaGreatDoor
