/- Values and rows: what is right of them, their bytes (seat K). -/
import Derived.Test.YtibdiikcigokjaaGreatDoorKsMeX
namespace Go.Proofs.YtibdiikcigokjaaGreatDoor
open Go Go.RowKit Go.MapKept
set_option linter.unusedVariables false
set_option linter.unusedSimpArgs false
structure Vl where
 k : Int
 n : Int
 s : ByteArray
def Vl.v (x : Vl) : Value := .agg #[.int .i64 x.k, .int .i64 x.n, .string x.s]
def vlC (x : Vl) : List Value := [.int .i64 x.k, .int .i64 x.n, .string x.s]
theorem vlC_len (x : Vl) : (vlC x).length = 3 := rfl
def I64 (n : Int) : Prop := -9223372036854775808 ≤ n ∧ n ≤ 9223372036854775807
def Vl.chk (x : Vl) : Int :=
 if x.k = 0 then (if x.n = 0 ∧ x.s.size = 0 then 0 else 31)
 else if x.k = 1 then (if x.s.size = 0 then 0 else 31)
 else if x.k = 2 then (if (x.n = 0 ∨ x.n = 1) ∧ x.s.size = 0 then 0 else 31)
 else if x.k = 3 then (if x.n = 0 ∧ x.s.size ≤ 200 then 0 else 31)
 else 30
def rowOk (r : List Vl) : Bool := decide (r.length ≤ 12) && r.all fun x => decide (x.chk = 0)
def zz (n : Int) : Nat := if 0 ≤ n then 2 * n.toNat else 2 * (-n - 1).toNat + 1
def unzz (m : Nat) : Int := if m % 2 = 0 then ((m / 2 : Nat) : Int) else -((m / 2 : Nat) : Int) - 1
def valB (x : Vl) : List Nat := x.k.toNat :: (if x.k = 1 then numB (zz x.n) else if x.k = 2 then [x.n.toNat] else if x.k = 3 then wordB (sb x.s) else [])
def rowB (r : List Vl) : List Nat := numB r.length ++ r.flatMap valB
def rowsB (rs : List (List Vl)) : List Nat := numB rs.length ++ rs.flatMap rowB
theorem unzz_zz (n : Int) : unzz (zz n) = n := by
 unfold zz unzz
 split
 · rw [if_pos (by omega)];omega
 · rw [if_neg (by omega)];omega
theorem zz_lt {n : Int} (h : I64 n) : zz n < 18446744073709551616 := by
 unfold zz
 obtain ⟨h1, h2⟩ := h
 split <;> omega
theorem size_nil {s : ByteArray} (h : s.size = 0) : s = .empty := by
 apply ByteArray.ext
 exact Array.eq_empty_of_size_eq_zero h
theorem strEq_empty (s : ByteArray) : strEq s .empty = decide (s.size = 0) := by
 rw [strEq_dec]
 by_cases h : s.size = 0
 · rw [decide_eq_true h, decide_eq_true (size_nil h)]
 · rw [decide_eq_false h, decide_eq_false (fun e => h (by rw [e]; rfl))]
theorem chk_kind {x : Vl} (h : x.chk = 0) : x.k = 0 ∨ x.k = 1 ∨ x.k = 2 ∨ x.k = 3 := by
 unfold Vl.chk at h
 split at h
 · exact .inl (by assumption)
 split at h
 · exact .inr (.inl (by assumption))
 split at h
 · exact .inr (.inr (.inl (by assumption)))
 split at h
 · exact .inr (.inr (.inr (by assumption)))
 · cases h
theorem valB_B8 {x : Vl} (h : x.chk = 0) : B8 (valB x) := by
 have hk := chk_kind h
 unfold valB
 intro c hc
 rcases List.mem_cons.1 hc with rfl | hc
 · omega
 · split at hc
   · exact numB_B8 _ c hc
   split at hc
   · rename_i h1 h2;unfold Vl.chk at h;rw [if_neg (by omega), if_neg (by omega), if_pos h2] at h;simp only [List.mem_singleton] at hc;subst hc;split at h
     · rename_i h3
       rcases h3.1 with e | e <;> rw [e] <;> decide
     · cases h
   split at hc
   · exact wordB_B8 (sb_B8 _) c hc
   · cases hc
theorem valB_pos (x : Vl) : 0 < (valB x).length := by unfold valB; simp
theorem valB_len {x : Vl} (h : x.chk = 0) (hi : I64 x.n) : (valB x).length ≤ 220 := by
 have hk := chk_kind h
 unfold valB
 rw [List.length_cons]
 split
 · have := numB_length 9 (zz x.n) (by have := zz_lt hi; exact Nat.lt_of_lt_of_le this (by decide));omega
 split
 · simp
 split
 · rename_i h1 h2 h3;unfold Vl.chk at h;rw [if_neg (by omega), if_neg (by omega), if_neg (by omega), if_pos h3] at h;split at h
   · rename_i h4;unfold wordB;rw [List.length_append, sb_length];have := numB_length 1 x.s.size (by have := h4.2; exact Nat.lt_of_le_of_lt this (by decide));omega
   · cases h
 · simp
theorem rowOk_len {r : List Vl} (h : rowOk r = true) : r.length ≤ 12 := by
 unfold rowOk at h
 simp only [Bool.and_eq_true, decide_eq_true_eq] at h
 exact h.1
theorem rowOk_chk {r : List Vl} (h : rowOk r = true) : ∀ x ∈ r, x.chk = 0 := by
 unfold rowOk at h
 simp only [Bool.and_eq_true, decide_eq_true_eq, List.all_eq_true] at h
 exact h.2
theorem flat_len {α : Type} {f : α → List Nat} {k : Nat} : ∀ {l : List α}, (∀ x ∈ l, (f x).length ≤ k) → (l.flatMap f).length ≤ l.length * k
 | [], _ => by simp
 | x :: l, h => by
   have h1 := flat_len (l := l) fun y hy => h y (List.mem_cons_of_mem _ hy);have h2 := h x (List.mem_cons_self ..);rw [List.flatMap_cons, List.length_append, List.length_cons, Nat.succ_mul];omega
theorem flat_long {α : Type} {f : α → List Nat} : ∀ {l : List α}, (∀ x ∈ l, 0 < (f x).length) → l.length ≤ (l.flatMap f).length
 | [], _ => by simp
 | x :: l, h => by
   have h1 := flat_long (l := l) fun y hy => h y (List.mem_cons_of_mem _ hy);have h2 := h x (List.mem_cons_self ..);rw [List.flatMap_cons, List.length_append, List.length_cons];omega
theorem rowB_len {r : List Vl} (h : rowOk r = true) (hi : ∀ x ∈ r, I64 x.n) : (rowB r).length ≤ 2700 := by
 unfold rowB
 rw [List.length_append]
 have h1 := rowOk_len h
 have h2 := numB_length 0 r.length (by omega)
 have h3 := flat_len (f := valB) (k := 220) fun x hx => valB_len (rowOk_chk h x hx) (hi x hx)
 have h4 : r.length * 220 ≤ 12 * 220 := Nat.mul_le_mul_right _ h1
 omega
theorem rowB_B8 {r : List Vl} (h : rowOk r = true) : B8 (rowB r) := by
 refine app_B8 (numB_B8 _) fun c hc => ?_
 obtain ⟨x, hx, hc⟩ := List.mem_flatMap.1 hc
 exact valB_B8 (rowOk_chk h x hx) c hc
section
variable {F : List HProp} {h : Heap}
theorem F190_spec (x : Vl) (H : sat F h) : CallsH Tryz.prog 190 [x.v] h fun u h' => u = .int .i64 x.chk ∧ sat F h' := by
 apply F190_ok.ap
 unfold F190
 refine Al_sat H fun b0 h1 H1 => ?_
 have r0 : ∀ {K : Int → Prop}, K x.k → Ld h1 ((Addr.mk b0 0 none).add 0) fun v => DI .i64 v K := fun hK => LdInt H1 rfl hK
 have r1 : ∀ {K : Int → Prop}, K x.n → Ld h1 ((Addr.mk b0 0 none).add 1) fun v => DI .i64 v K := fun hK => LdInt H1 rfl hK
 have r2 : ∀ {K : ByteArray → Prop}, K x.s → Ld h1 ((Addr.mk b0 0 none).add 2) fun v => DS v K := fun hK => LdStr H1 rfl hK
 have HF := H1.drop
 refine r0 ?_
 have empty3 : ∀ (good : Bool), x.k ≠ 3 → (good = decide (x.s.size = 0)) → x.chk = (if good = true then 0 else 31) → Ld h1 ((Addr.mk b0 0 none).add 0) fun v => DI .i64 v fun x4 =>
   (bif (x4 : Int) != 3 then
    Ld h1 ((Addr.mk b0 0 none).add 2) fun v8 => DS v8 fun x5 =>
    (bif !strEq x5 .empty then
     Value.int .i64 31 = .int .i64 x.chk ∧ sat F h1
    else
     Value.int .i64 0 = .int .i64 x.chk ∧ sat F h1)
   else
    Value.int .i64 0 = .int .i64 x.chk ∧ sat F h1) := by
  intro good hk hg hc;refine r0 ?_;rw [show (x.k != 3) = true from by rw [bne_iff_ne]; exact hk, cond_true];refine r2 ?_;rw [strEq_empty, ← hg, hc];cases good
  · exact ⟨rfl, HF⟩
  · exact ⟨rfl, HF⟩
 by_cases k0 : x.k = 0
 · rw [keq k0, cond_true];refine r1 ?_;by_cases n0 : x.n = 0
   · rw [keq n0, Bool.not_true, cond_false];refine empty3 _ (by omega) rfl ?_;unfold Vl.chk;rw [if_pos k0];by_cases hs : x.s.size = 0
     · rw [if_pos ⟨n0, hs⟩, if_pos (by rw [decide_eq_true hs])]
     · rw [if_neg (fun e => hs e.2), if_neg (by rw [decide_eq_false hs]; decide)]
   · rw [kne n0, Bool.not_false, cond_true];refine ⟨?_, HF⟩;unfold Vl.chk;rw [if_pos k0, if_neg (fun e => n0 e.1)]
 rw [kne k0, cond_false]
 by_cases k1 : x.k = 1
 · rw [keq k1, cond_true];refine empty3 _ (by omega) rfl ?_;unfold Vl.chk;rw [if_neg k0, if_pos k1];by_cases hs : x.s.size = 0
   · rw [if_pos hs, if_pos (by rw [decide_eq_true hs])]
   · rw [if_neg hs, if_neg (by rw [decide_eq_false hs]; decide)]
 rw [kne k1, cond_false]
 by_cases k2 : x.k = 2
 · rw [keq k2, cond_true];refine r1 ?_;by_cases n0 : x.n = 0
   · rw [keq n0, cond_true];refine empty3 _ (by omega) rfl ?_;unfold Vl.chk;rw [if_neg k0, if_neg k1, if_pos k2];by_cases hs : x.s.size = 0
     · rw [if_pos ⟨.inl n0, hs⟩, if_pos (by rw [decide_eq_true hs])]
     · rw [if_neg (fun e => hs e.2), if_neg (by rw [decide_eq_false hs]; decide)]
   · rw [kne n0, cond_false];refine r1 ?_;by_cases n1 : x.n = 1
     · rw [keq n1, Bool.not_true, cond_false];refine empty3 _ (by omega) rfl ?_;unfold Vl.chk;rw [if_neg k0, if_neg k1, if_pos k2];by_cases hs : x.s.size = 0
       · rw [if_pos ⟨.inr n1, hs⟩, if_pos (by rw [decide_eq_true hs])]
       · rw [if_neg (fun e => hs e.2), if_neg (by rw [decide_eq_false hs]; decide)]
     · rw [kne n1, Bool.not_false, cond_true];refine ⟨?_, HF⟩;unfold Vl.chk;rw [if_neg k0, if_neg k1, if_pos k2, if_neg (fun e => e.1.elim n0 n1)]
 rw [kne k2, cond_false]
 by_cases k3 : x.k = 3
 · rw [keq k3, cond_true];refine r1 ?_;by_cases n0 : x.n = 0
   · rw [keq n0, cond_true];refine r2 ?_;by_cases hs : x.s.size ≤ 200
     · rw [decide_eq_true (show ((x.s.size : Int) ≤ 200) by omega), Bool.not_true, cond_false];refine r0 ?_;rw [show (x.k != 3) = false from by rw [k3]; rfl, cond_false];refine ⟨?_, HF⟩;unfold Vl.chk;rw [if_neg k0, if_neg k1, if_neg k2, if_pos k3, if_pos ⟨n0, hs⟩]
     · rw [decide_eq_false (show ¬ ((x.s.size : Int) ≤ 200) by omega), Bool.not_false, cond_true];refine ⟨?_, HF⟩;unfold Vl.chk;rw [if_neg k0, if_neg k1, if_neg k2, if_pos k3, if_neg (fun e => hs e.2)]
   · rw [kne n0, cond_false];refine ⟨?_, HF⟩;unfold Vl.chk;rw [if_neg k0, if_neg k1, if_neg k2, if_pos k3, if_neg (fun e => n0 e.1)]
 · rw [kne k3, cond_false];refine ⟨?_, HF⟩;unfold Vl.chk;rw [if_neg k0, if_neg k1, if_neg k2, if_neg k3]
theorem copyVl {x : Vl} {K : Nat → Heap → Prop} (H : sat F h) (hK : ∀ b h', sat (pt b (.cells #[.int .i64 x.k, .int .i64 x.n, .string x.s] 84 (0, 0)) :: F) h' → K b h') :
  Al h (.cells #[.int .i64 0, .int .i64 0, .string .empty] 84) fun b0 h_1 =>
   StC h_1 ((Addr.mk b0 0 none).add 0) (.int .i64 x.k) fun h_3 =>
   StC h_3 ((Addr.mk b0 0 none).add 1) (.int .i64 x.n) fun h_4 =>
   StC h_4 ((Addr.mk b0 0 none).add 2) (.string x.s) fun h_5 => K b0 h_5 := by
 refine Al_sat H fun b0 h1 H1 => ?_
 refine StCC (i := 0) H1 (by exact Nat.zero_lt_succ _) rfl fun h2 H2 => ?_
 refine StCC (i := 1) H2 (by exact (by decide : 1 < 3)) rfl fun h3 H3 => ?_
 refine StCC (i := 2) H3 (by exact (by decide : 2 < 3)) rfl fun h4 H4 => ?_
 exact hK b0 h4 H4
theorem readVl {x : Vl} {b : Nat} {fr : Nat × Nat} {K : Int → Int → ByteArray → Prop} (H : sat (pt b (.cells #[.int .i64 x.k, .int .i64 x.n, .string x.s] 84 fr) :: F) h) (hK : K x.k x.n x.s) :
  Ld h ((Addr.mk b 0 none).add 0) fun c3 => Ld h ((Addr.mk b 0 none).add 1) fun c4 => Ld h ((Addr.mk b 0 none).add 2) fun c5 =>
   ∃ (x3 : Int), ∃ (x4 : Int), ∃ (x5 : ByteArray), (Value.agg #[c3, c4, c5]) = .agg #[.int .i64 x3, .int .i64 x4, .string x5] ∧ K x3 x4 x5 :=
 LdC (i := 0) (v := .int .i64 x.k) H rfl (LdC (i := 1) (v := .int .i64 x.n) H rfl (LdC (i := 2) (v := .string x.s) H rfl ⟨x.k, x.n, x.s, rfl, hK⟩))
theorem rowRead {a : Option Addr} {l i : Nat} {xs : List Vl} {x : Vl} {K : Int → Int → ByteArray → Prop} (hR : RdC h a (xs.flatMap vlC)) (hl : xs.length = l) (hx : xs[i]? = some x) (hK : K x.k x.n x.s) :
  IdxA a l (i : Int) 3 fun a0 => Ld h (a0.add 0) fun c0 => Ld h (a0.add 1) fun c1 => Ld h (a0.add 2) fun c2 =>
   ∃ (x0 : Int), ∃ (x1 : Int), ∃ (x2 : ByteArray), (Value.agg #[c0, c1, c2]) = .agg #[.int .i64 x0, .int .i64 x1, .string x2] ∧ K x0 x1 x2 :=
 IdxC (f := vlC) (sz := 3) vlC_len (by decide) hR hl hx fun b hb hc => ⟨.int .i64 x.k, hc 0 _ rfl, .int .i64 x.n, hc 1 _ rfl, .string x.s, hc 2 _ rfl, x.k, x.n, x.s, rfl, hK⟩
theorem F123_spec {a : Option Addr} {l c : Nat} {xs : List Vl} (hR : ∀ h', sat F h' → RdC h' a (xs.flatMap vlC)) (hl : xs.length = l) (hl2 : l ≤ 9223372036854775807) (H : sat F h) :
  CallsH Tryz.prog 123 [.slice a l c] h fun v h' => v = .bool (rowOk xs) ∧ sat F h' := by
 apply F123_ok.ap
 unfold F123
 refine LoopH.upto l (fun i (s0 : Int) h2 => s0 = (i : Int) ∧ i ≤ l ∧ i ≤ 12 ∧ (∀ x ∈ xs.take i, x.chk = 0) ∧ sat F h2) (fun s0 => l - s0.toNat) (fun i s h2 hh => ⟨hh.2.1, by rw [hh.1]; omega⟩) ⟨rfl, Nat.zero_le _, Nat.zero_le _, by simp, H⟩ ?_ ?_
 · rintro i s0 h2 again hi ⟨rfl, _, h12, hall, H2⟩ go;rw [decide_eq_true (show ((i : Int) < (l : Int)) by omega), cond_true];obtain ⟨x, hx⟩ : ∃ x, xs[i]? = some x := ⟨_, List.getElem?_eq_getElem (by omega)⟩
   refine rowRead (hR _ H2) hl hx ?_;refine copyVl H2 fun b0 h3 H3 => ?_;by_cases e : i = 12
   · rw [show ((i : Int) == 12) = true from keq (by omega), cond_true];refine ⟨?_, H3.drop⟩;unfold rowOk;rw [decide_eq_false (by omega), Bool.false_and]
   · rw [show ((i : Int) == 12) = false from kne (by omega), cond_false];refine readVl H3 ?_;refine (F190_spec x H3).mono ?_;rintro v h4 ⟨rfl, H4⟩;refine ⟨_, rfl, ?_⟩;dsimp only;by_cases hc : x.chk = 0
     · rw [show (x.chk != 0) = false from by rw [hc]; rfl, cond_false, wrap64_succ (by omega)];refine go _ _ ⟨rfl, by omega, by omega, fun y hy => ?_, H4.drop⟩;rw [List.take_add_one, hx] at hy
       rcases List.mem_append.1 hy with hy | hy
       · exact hall y hy
       · simp at hy;rw [hy];exact hc
     · rw [show (x.chk != 0) = true from by rw [bne_iff_ne]; exact hc, cond_true];refine ⟨?_, H4.drop⟩;unfold rowOk;rw [show (xs.all fun x => decide (x.chk = 0)) = false from ?_, Bool.and_false];rw [List.all_eq_false];exact ⟨x, List.mem_of_getElem? hx, by rw [decide_eq_false hc]; decide⟩
 · rintro s0 h2 again ⟨rfl, _, h12, hall, H2⟩;rw [decide_eq_false (by omega), cond_false];refine ⟨?_, H2⟩;rw [List.take_of_length_le (by omega)] at hall;unfold rowOk;rw [decide_eq_true (by omega), Bool.true_and];congr 1;exact (List.all_eq_true.2 fun x hx => by rw [decide_eq_true (hall x hx)]).symm
end
theorem xor_zero64 (x : Int) : (BitVec.ofInt 64 x ^^^ BitVec.ofInt 64 0).toNat = (x % 18446744073709551616).toNat := by
 rw [show BitVec.ofInt 64 0 = 0#64 from rfl, BitVec.xor_zero, BitVec.toNat_ofInt]
 rfl
theorem xor_ones64 {x y : Int} (hy : BitVec.ofInt 64 y = BitVec.allOnes 64) : (BitVec.ofInt 64 x ^^^ BitVec.ofInt 64 y).toNat = 18446744073709551615 - (x % 18446744073709551616).toNat := by
 rw [hy, BitVec.xor_allOnes, BitVec.toNat_not, BitVec.toNat_ofInt]
 rfl
theorem shl1_i64 (n : Int) : shlI .i64 n 1 = IntKind.wrap .i64 (n * 2) := rfl
theorem shr63_i64 {n : Int} (h : I64 n) : shrI .i64 n 63 = if 0 ≤ n then 0 else -1 := by
 obtain ⟨h1, h2⟩ := h
 unfold shrI
 show n.fdiv 9223372036854775808 = _
 rw [Int.fdiv_eq_ediv_of_nonneg _ (by decide)]
 split <;> omega
theorem whole_eq {n : Int} (h : I64 n) : bitsI .xor .u64 (IntKind.wrap .u64 (shlI .i64 n 1)) (IntKind.wrap .u64 (shrI .i64 n 63)) = (zz n : Int) := by
 rw [shl1_i64, shr63_i64 h]
 obtain ⟨h1, h2⟩ := h
 unfold bitsI zz
 simp only []
 by_cases h0 : 0 ≤ n
 · rw [if_pos h0, if_pos h0, show IntKind.wrap .u64 0 = 0 from rfl, show (IntKind.u64).bits = 64 from rfl, xor_zero64, IntKind.wrap_u64, IntKind.wrap_u64, IntKind.wrap_i64];omega
 · rw [if_neg h0, if_neg h0, show IntKind.wrap .u64 (-1) = 18446744073709551615 from rfl, show (IntKind.u64).bits = 64 from rfl, xor_ones64 rfl, IntKind.wrap_u64, IntKind.wrap_u64, IntKind.wrap_i64];omega
theorem and1_u64 {m : Nat} (hm : m < 18446744073709551616) : bitsI .and .u64 (m : Int) 1 = ((m % 2 : Nat) : Int) := by
 unfold bitsI
 simp only []
 have e : (BitVec.ofInt (IntKind.u64).bits (m : Int) &&& BitVec.ofInt (IntKind.u64).bits 1).toNat = m % 2 := by
  rw [show BitVec.ofInt (IntKind.u64).bits 1 = BitVec.ofNat (IntKind.u64).bits 1 from rfl, BitVec.ofInt_natCast, BitVec.toNat_and, BitVec.toNat_ofNat, BitVec.toNat_ofNat, Nat.mod_eq_of_lt (show m < 2 ^ IntKind.u64.bits from hm), show 1 % 2 ^ IntKind.u64.bits = 1 from rfl, Nat.and_one_is_mod]
 rw [e, IntWalk.u64_in _ (by omega)]
theorem unwhole_eq {m : Nat} (hm : m < 18446744073709551616) : bitsI .xor .i64 (IntKind.wrap .i64 (shrI .u64 (m : Int) 1)) (IntKind.wrap .i64 (0 - (IntKind.wrap .i64 (bitsI .and .u64 (m : Int) 1)))) = unzz m := by
 have e1 : shrI .u64 (m : Int) 1 = ((m / 2 : Nat) : Int) := shrI_nat .u64 m 1 (by decide)
 rw [and1_u64 hm, e1, IntWalk.i64_in ((m / 2 : Nat) : Int) (by omega), IntWalk.i64_in ((m % 2 : Nat) : Int) (by omega)]
 unfold bitsI unzz
 simp only []
 by_cases h0 : m % 2 = 0
 · rw [if_pos h0, h0, show IntKind.wrap .i64 (0 - ((0 : Nat) : Int)) = 0 from rfl, show (IntKind.i64).bits = 64 from rfl, xor_zero64, IntKind.wrap_i64];omega
 · rw [if_neg h0, show m % 2 = 1 by omega, show IntKind.wrap .i64 (0 - ((1 : Nat) : Int)) = -1 from rfl, show (IntKind.i64).bits = 64 from rfl, xor_ones64 rfl, IntKind.wrap_i64];omega
section
variable {F : List HProp} {h : Heap}
theorem F237_spec {n : Int} (hn : I64 n) : CallsH Tryz.prog 237 [.int .i64 n] h fun v h' => v = .int .u64 (zz n : Int) ∧ h' = h := by
 apply F237_ok.ap
 unfold F237
 exact ⟨by decide, by decide, by rw [whole_eq hn], rfl⟩
theorem own1 {b : Nat} {n : Nat} (H : sat (pt b (.cells #[nv n] 5 (0, 0)) :: F) h) : sat (ownS 5 1 (some ⟨b, 0, none⟩) 1 1 ([n].map nv) :: F) h :=
 ownS_mk (cells := #[nv n]) H (by intro j hj; simp) (Nat.le_refl _) (by unfold maxLen; omega) rfl rfl
theorem F203_spec {x : Vl} (hx : x.chk = 0) (hi : I64 x.n) (H : sat F h) : CallsH Tryz.prog 203 [x.v] h fun v h' => ∃ (a : Option Addr) (c : Nat), v = .slice a (valB x).length c ∧ sat (ownS 5 1 a (valB x).length c ((valB x).map nv) :: F) h' := by
 have hk := chk_kind hx
 have hlen := valB_len hx hi
 apply F203_ok.ap
 unfold F203
 refine Al_sat H fun b0 h1 H1 => ?_
 have r0 : ∀ {G : List HProp} {h1 : Heap} {K : Int → Prop}, sat (pt b0 (.cells #[.int .i64 x.k, .int .i64 x.n, .string x.s] 84 (0, 0)) :: G) h1 → K x.k → Ld h1 ((Addr.mk b0 0 none).add 0) fun v => DI .i64 v K := fun H1 hK => LdInt H1 rfl hK
 refine r0 H1 ?_
 have ek : IntKind.wrap .u8 x.k = ((x.k.toNat : Nat) : Int) := by
  rw [IntWalk.u8_in _ (by omega)];omega
 rw [ek]
 refine Al_sat H1 fun b1 h2 H2 => ?_
 refine r0 (H2.mv 1) ?_
 unfold valB
 have H3 := own1 H2
 by_cases k1 : x.k = 1
 · rw [keq k1, cond_true, if_pos k1];refine LdInt (H2.mv 1) rfl ?_;refine (F237_spec hi).mono ?_;rintro v h3 ⟨rfl, rfl⟩;refine ⟨_, rfl, ?_⟩;refine (F205_spec (zz_lt hi) H3).mono ?_;rintro v h4 ⟨a, c, rfl, H4⟩;rw [DSl_slice];have hl := numB_length 9 (zz x.n) (Nat.lt_of_lt_of_le (zz_lt hi) (by decide));refine appB u40 src40 inf5b (H4.mv 1) (srcB (ys := numB (zz x.n)) (ownS_read H4) rfl) (by omega) fun a' c' h5 _ H5 => ?_;rw [DSl_slice];have e : 1 + (numB (zz x.n)).length = (x.k.toNat :: numB (zz x.n)).length := by rw [List.length_cons, Nat.add_comm]
   rw [e] at H5 ⊢;exact ⟨a', c', rfl, (H5.mv 1).drop.mv 1 |>.drop⟩
 rw [kne k1, cond_false, if_neg k1]
 by_cases k2 : x.k = 2
 · rw [keq k2, cond_true, if_pos k2];refine LdInt (H2.mv 1) rfl ?_;have hn : x.n = 0 ∨ x.n = 1 := by
    unfold Vl.chk at hx;rw [if_neg (by omega), if_neg k1, if_pos k2] at hx;split at hx
    · rename_i hh; exact hh.1
    · cases hx
   have en : IntKind.wrap .u8 x.n = ((x.n.toNat : Nat) : Int) := by
    rw [IntWalk.u8_in _ (by omega)];omega
   rw [en];refine Al_sat H3 fun b3 h3 H4 => ?_;refine appB u40 src40 inf5b (H4.mv 1) (srcB (ys := [x.n.toNat]) (RdCf H4 rfl) rfl) (by omega) fun a' c' h5 _ H5 => ?_;rw [DSl_slice];exact ⟨a', c', rfl, (H5.mv 1).drop.mv 1 |>.drop⟩
 rw [kne k2, cond_false, if_neg k2]
 by_cases k3 : x.k = 3
 · rw [keq k3, cond_true, if_pos k3];refine LdStr (H2.mv 1) rfl ?_;have hs : x.s.size ≤ 200 := by
    unfold Vl.chk at hx;rw [if_neg (by omega), if_neg k1, if_neg k2, if_pos k3] at hx;split at hx
    · rename_i hh; exact hh.2
    · cases hx
   refine (F138_spec (by omega) H3).mono ?_;rintro v h4 ⟨a, c, rfl, H4⟩;rw [DSl_slice];have hl : (wordB (sb x.s)).length ≤ 300 := by
    unfold valB at hlen;rw [if_neg k1, if_neg k2, if_pos k3, List.length_cons] at hlen;omega
   refine appB u40 src40 inf5b (H4.mv 1) (srcB (ys := wordB (sb x.s)) (ownS_read H4) rfl) (by omega) fun a' c' h5 _ H5 => ?_;rw [DSl_slice];have e : 1 + (wordB (sb x.s)).length = (x.k.toNat :: wordB (sb x.s)).length := by rw [List.length_cons, Nat.add_comm]
   rw [e] at H5 ⊢;exact ⟨a', c', rfl, (H5.mv 1).drop.mv 1 |>.drop⟩
 rw [kne k3, cond_false, if_neg k3]
 exact ⟨_, 1, rfl, (H3.mv 1).drop⟩
def preV (n : Nat) (xs : List Vl) : List Nat := numB n ++ xs.flatMap valB
theorem F202_spec {a : Option Addr} {l c : Nat} {xs : List Vl} (hR : ∀ h', sat F h' → RdC h' a (xs.flatMap vlC)) (hl : xs.length = l) (hok : rowOk xs = true) (hi : ∀ x ∈ xs, I64 x.n) (H : sat F h) :
  CallsH Tryz.prog 202 [.slice a l c, .func (.func 203) #[] #[]] h fun v h' => ∃ (a : Option Addr) (c : Nat), v = .slice a (rowB xs).length c ∧ sat (ownS 5 1 a (rowB xs).length c ((rowB xs).map nv) :: F) h' := by
 have h12 := rowOk_len hok
 have hchk := rowOk_chk hok
 have hlen := rowB_len hok hi
 apply F202_ok.ap
 unfold F202
 rw [IntWalk.u64_in (l : Int) (by omega), ← hl]
 refine (F205_spec (n := xs.length) (by omega) H).mono ?_
 rintro v h1 ⟨a1, c1, rfl, H1⟩
 rw [DSl_slice]
 have hpre : ∀ i, (preV xs.length (xs.take i)).length ≤ (rowB xs).length := fun i => by
  unfold preV rowB;rw [List.length_append, List.length_append];have : xs.flatMap valB = (xs.take i).flatMap valB ++ (xs.drop i).flatMap valB := by rw [← List.flatMap_append, List.take_append_drop]
  rw [this, List.length_append];omega
 refine LoopH.upto xs.length (fun i (s : Sl × Int) h2 => s.2 = (i : Int) ∧ i ≤ xs.length ∧ s.1.l = (preV xs.length (xs.take i)).length ∧ sat (ownS 5 1 s.1.a s.1.l s.1.c ((preV xs.length (xs.take i)).map nv) :: F) h2) (fun s => xs.length - s.2.toNat) (fun i s h2 hh => ⟨hh.2.1, by rw [hh.1]; omega⟩)
  ⟨rfl, Nat.zero_le _, by simp [preV], by simpa [preV] using H1⟩ ?_ ?_
 · rintro i ⟨⟨sa, sl, sc⟩, s2⟩ h2 again hi2 ⟨rfl, _, rfl, H2⟩ go;simp only at H2 ⊢;rw [decide_eq_true (show ((i : Int) < (xs.length : Int)) by omega), cond_true];obtain ⟨x, hx⟩ : ∃ x, xs[i]? = some x := ⟨_, List.getElem?_eq_getElem (by omega)⟩
   have hxm := List.mem_of_getElem? hx;refine rowRead (hR _ H2.drop) rfl hx ?_;refine copyVl H2 fun b0 h3 H3 => ?_;refine readVl H3 ?_;refine CallV_fn ?_;refine (F203_spec (hchk x hxm) (hi x hxm) H3).mono ?_;rintro v h6 ⟨a2, c2, rfl, H7⟩;rw [DSl_slice];have hp : preV xs.length (xs.take (i + 1)) = preV xs.length (xs.take i) ++ valB x := by
    rw [List.take_add_one, hx];unfold preV;rw [List.flatMap_append, ← List.append_assoc];simp
   have hle := hpre (i + 1);rw [hp, List.length_append] at hle;refine appB u40 src40 inf5b (H7.mv 2) (srcB (ownS_read H7) rfl) (by omega) fun a' c' h8 _ H8 => ?_;rw [DSl_slice, wrap64_succ (by omega)];refine go _ _ ⟨rfl, by omega, ?_, ?_⟩
   · rw [hp, List.length_append]
   · rw [hp];exact (H8.mv 1).drop.mv 1 |>.drop
 · rintro ⟨⟨sa, sl, sc⟩, s2⟩ h2 again ⟨rfl, _, rfl, H2⟩;simp only at H2 ⊢;rw [decide_eq_false (by omega), cond_false];rw [List.take_of_length_le (by omega)] at H2 ⊢;exact ⟨sa, sc, rfl, H2⟩
theorem F133_spec {ra : Option Addr} {rc b : Nat} {e : TypeId} {xs : List Vl} (hR : ∀ h', sat F h' → RdC h' ra (xs.flatMap vlC)) (hi : ∀ x ∈ xs, I64 x.n) (hl2 : xs.length ≤ 9223372036854775807) (H : sat (pt b (.cells #[.slice ra xs.length rc] e (0, 0)) :: F) h) :
  CallsH Tryz.prog 133 [.slice (some ⟨b, 0, none⟩) 1 1] h fun v h' => (rowOk xs = false ∧ v = .tuple #[.slice none 0 0, .int .i64 41] ∧ sat F h') ∨
   (rowOk xs = true ∧ ∃ (a : Option Addr) (c : Nat), v = .tuple #[.slice a (rowsB [xs]).length c, .int .i64 0] ∧ sat (ownS 5 1 a (rowsB [xs]).length c ((rowsB [xs]).map nv) :: F) h') := by
 have hR2 : ∀ h', sat (pt b (.cells #[.slice ra xs.length rc] e (0, 0)) :: F) h' → RdC h' ra (xs.flatMap vlC) := fun h' hh => hR h' hh.drop
 have rd : ∀ {G : List HProp} {h' : Heap} {K : Option Addr → Nat → Nat → Prop}, sat (pt b (.cells #[.slice ra xs.length rc] e (0, 0)) :: G) h' → K ra xs.length rc → IdxA (some ⟨b, 0, none⟩) 1 0 1 fun a => Ld h' a fun v => DSl v K := by
  intro G h' K H' hK;refine ⟨_, rfl, by decide, by decide, ?_⟩;exact LdSl (i := 0) H' rfl hK
 apply F133_ok.ap
 unfold F133
 refine LoopH.upto 1 (fun i (s : Int) h2 => s = (i : Int) ∧ i ≤ 1 ∧ (i = 1 → rowOk xs = true) ∧ sat (pt b (.cells #[.slice ra xs.length rc] e (0, 0)) :: F) h2) (fun s => 1 - s.toNat) (fun i s h2 hh => ⟨hh.2.1, by rw [hh.1]; omega⟩) ⟨rfl, Nat.zero_le _, (fun e => by cases e), H⟩ ?_ ?_
 · rintro i s h2 again hi1 ⟨rfl, _, _, H2⟩ go;obtain rfl : i = 0 := by omega
   rw [decide_eq_true (show (((0 : Nat) : Int) < ((1 : Nat) : Int)) by decide), cond_true];refine rd H2 ?_;refine (F123_spec (c := rc) hR2 rfl hl2 H2).mono ?_;rintro v h3 ⟨rfl, H3⟩;rw [DB_bool]
   cases hok : rowOk xs with
   | false => exact .inl ⟨rfl, rfl, H3.drop⟩
   | true =>
     rw [Bool.not_true, cond_false, wrap64_succ (by decide)];exact go _ _ ⟨rfl, by decide, fun _ => hok, H3⟩
 · rintro s h2 again ⟨rfl, _, hok, H2⟩;have hok := hok rfl;rw [decide_eq_false (by decide), cond_false];have hlen := rowB_len hok hi;have el : rowsB [xs] = 1 :: rowB xs := by
    unfold rowsB;rw [List.length_singleton, numB_small (by decide), List.flatMap_cons, List.flatMap_nil, List.append_nil]
    rfl
   refine CallsH.mono (Q := fun v h' => ∃ (a : Option Addr) (c : Nat), v = .slice a (rowsB [xs]).length c ∧ sat (ownS 5 1 a (rowsB [xs]).length c ((rowsB [xs]).map nv) :: F) h') ?_ ?_
   · apply F200_ok.ap;unfold F200;rw [show IntKind.wrap .u64 ((1 : Nat) : Int) = ((1 : Nat) : Int) from rfl];refine (F205_spec (n := 1) (by decide) H2).mono ?_;rintro v h3 ⟨a1, c1, rfl, H3⟩;rw [numB_small (show 1 < 128 by decide)] at H3 ⊢;rw [DSl_slice];refine LoopH.upto 1 (fun i (s : Sl × Int) h2 => s.2 = (i : Int) ∧ i ≤ 1 ∧ (i = 0 → s.1.l = 1 ∧ sat (ownS 5 1 s.1.a 1 s.1.c ([1].map nv) :: pt b (.cells #[.slice ra xs.length rc] e (0, 0)) :: F) h2) ∧ (i = 1 → s.1.l = (rowsB [xs]).length ∧ sat (ownS 5 1 s.1.a (rowsB [xs]).length s.1.c ((rowsB [xs]).map nv) :: F) h2)) (fun s => 1 - s.2.toNat) (fun i s h2 hh => ⟨hh.2.1, by rw [hh.1]; omega⟩)
      ⟨rfl, Nat.zero_le _, fun _ => ⟨rfl, H3⟩, (fun e => by cases e)⟩ ?_ ?_
     · rintro i ⟨⟨sa, sl, sc⟩, s2⟩ h4 again hi1 ⟨rfl, _, h0, _⟩ go;obtain rfl : i = 0 := by omega
       obtain ⟨rfl, H4⟩ := h0 rfl;dsimp only at H4 ⊢;rw [decide_eq_true (show (((0 : Nat) : Int) < ((1 : Nat) : Int)) by decide), cond_true];refine rd (H4.mv 1) ?_;refine CallV_fn ?_;apply F201_ok.ap;unfold F201;refine (F202_spec (c := rc) (F := ownS 5 1 sa 1 sc ([1].map nv) :: F) (fun h' hh => hR h' hh.drop) rfl hok hi (H4.mv 1).drop).mono ?_;rintro v h5 ⟨a2, c2, rfl, H5⟩;rw [DSl_slice];show DSl (.slice a2 (rowB xs).length c2) _;rw [DSl_slice];refine appB u40 src40 inf5b (H5.mv 1) (srcB (ys := rowB xs) (ownS_read H5) rfl) (by omega) fun a' c' h8 _ H8 => ?_;rw [DSl_slice, wrap64_succ (by decide)];refine go _ _ ⟨rfl, by decide, (fun e => by cases e), fun _ => ?_⟩;have e : 1 + (rowB xs).length = (rowsB [xs]).length := by rw [el, List.length_cons, Nat.add_comm]
       dsimp only;refine ⟨e, ?_⟩;rw [e] at H8;rw [el] at H8 ⊢;exact (H8.mv 1).drop
     · rintro ⟨⟨sa, sl, sc⟩, s2⟩ h4 again ⟨rfl, _, _, h1⟩;obtain ⟨rfl, H4⟩ := h1 rfl;dsimp only at H4 ⊢;rw [decide_eq_false (by decide), cond_false];exact ⟨sa, sc, rfl, H4⟩
   · rintro v h3 ⟨a, c, rfl, H3⟩;rw [DSl_slice];apply F135_ok.ap;unfold F135;rw [decide_eq_false (show ¬ (((rowsB [xs]).length : Int) > 16777216) by rw [el, List.length_cons]; omega), cond_false];exact ⟨a, _, c, 0, rfl, .inr ⟨hok, a, c, rfl, H3⟩⟩
end
theorem unnum_numB (rest : List Nat) : ∀ (m i acc : Nat), i ≤ 9 → m < 2 ^ (64 - 7 * i) → (0 < i → 0 < m) → unnumG i acc (numB m ++ rest) = some (acc + m * 2 ^ (7 * i), i + (numB m).length) := by
 intro m
 induction m using Nat.strongRecOn with
 | ind m ih =>
   intro i acc hi hm h0;by_cases hlt : m < 128
   · rw [numB_small hlt];show unnumG i acc (m :: rest) = _;unfold unnumG;rw [if_neg ?_, if_pos hlt, Nat.mod_eq_of_lt hlt]
     · rfl
     · rintro (⟨rfl, h⟩ | ⟨h1, h2⟩)
       · have : m < 2 := hm;omega
       · have := h0 h1;omega
   · rw [numB_big hlt];show unnumG i acc ((m % 128 + 128) :: (numB (m / 128) ++ rest)) = _;unfold unnumG;have hi8 : i ≤ 8 := by
      rcases Nat.lt_or_ge i 9 with h | h
      · omega
      · obtain rfl : i = 9 := by omega
        have : m < 2 := hm;omega
     rw [if_neg ?_, if_neg (by omega), ih (m / 128) (Nat.div_lt_self (by omega) (by decide)) (i + 1) _ (by omega) ?_ (fun _ => Nat.div_pos (by omega) (by decide))]
     · have e1 : 2 ^ (7 * (i + 1)) = 128 * 2 ^ (7 * i) := by rw [Nat.mul_add, Nat.pow_add, Nat.mul_comm]
       have e2 : (m % 128 + 128) % 128 = m % 128 := by omega
       rw [e1, e2, ← Nat.mul_assoc, Nat.add_assoc, ← Nat.add_mul, List.length_cons];have e3 : m % 128 + m / 128 * 128 = m := by omega
       rw [e3];congr 2;omega
     · have e : 2 ^ (64 - 7 * i) = 2 ^ (64 - 7 * (i + 1)) * 128 := by
        rw [show (128 : Nat) = 2 ^ 7 from rfl, ← Nat.pow_add];congr 1;omega
       rw [e] at hm;exact Nat.div_lt_of_lt_mul (by rw [Nat.mul_comm]; exact hm)
     · rintro (⟨rfl, h⟩ | ⟨h1, h2⟩) <;> omega
section
variable {F : List HProp} {h : Heap}
theorem F183_num {rb n : Nat} {rest : List Nat} (hn : n < 18446744073709551616) (h8 : B8 rest) (H : sat (readerP rb (numB n ++ rest) :: F) h) :
  CallsH Tryz.prog 183 [ptrV rb] h fun v h' => v = .int .u64 (n : Int) ∧ sat (readerP rb rest :: F) h' := by
 apply F183_ok.ap
 unfold F183
 obtain ⟨a, c, hc, hl, H2⟩ := readerP_open H
 rw [NN'_some]
 refine LdSl H2 rfl ?_
 refine (F228_gen (c := c) (app_B8 (numB_B8 _) h8) hl (roP_get (H2.mv 1))).mono ?_
 rintro v h1 ⟨rfl, rfl⟩
 rw [unnum_numB rest n 0 0 (by decide) hn (fun e => by cases e)]
 refine ⟨((0 + n * 2 ^ (7 * 0) : Nat) : Int), ((0 + (numB n).length : Nat) : Int), 0, rfl, ?_⟩
 rw [show 0 + n * 2 ^ (7 * 0) = n by rw [Nat.mul_zero, Nat.pow_zero, Nat.mul_one, Nat.zero_add], Nat.zero_add]
 rw [show ((0 : Int) != 0) = false from rfl, cond_false, NN'_some]
 refine LdSl H2 rfl ?_
 have hlen : (numB n ++ rest).length = (numB n).length + rest.length := List.length_append
 refine SlV_nat (lo := (numB n).length) (hi := (numB n ++ rest).length) (mx := c) (by omega) hc (Nat.le_refl _) ?_
 rw [NN'_some, addr_add0]
 have e : (numB n ++ rest).length - (numB n).length = rest.length := by omega
 rw [e]
 refine StCC H2 (by exact Nat.zero_lt_one) rfl fun h2 H3 => ?_
 refine ⟨rfl, readerP_shut (a := subA a (numB n).length c 1) (c := c - (numB n).length) (by omega) (by omega) ?_⟩
 refine (roP_mono (fun h hh => ?_) (H3.mv 1)).mv 1
 have := RdC.sub hh (numB n).length rest.length c (by omega)
 rw [← List.map_drop, drop_pre, List.take_of_length_le (by rw [List.length_map]; exact Nat.le_refl _)] at this
 exact this
theorem F188_spec {rb c : Nat} {rest : List Nat} (H : sat (readerP rb (c :: rest) :: F) h) :
  CallsH Tryz.prog 188 [ptrV rb] h fun v h' => v = .int .u8 (c : Int) ∧ sat (readerP rb rest :: F) h' := by
 apply F188_ok.ap
 unfold F188
 refine (F184_spec (w := [c]) H).mono ?_
 rintro v h1 ⟨a, m, rfl, H1⟩
 rw [DSl_slice]
 refine IdxA_nat (i := 0) (v := nv c) (roP_get H1) rfl rfl fun b hb hcell => ⟨nv c, hcell, (c : Int), rfl, rfl, H1.drop⟩
theorem F189_spec {rb : Nat} {n : Int} {rest : List Nat} (hn : I64 n) (h8 : B8 rest) (H : sat (readerP rb (numB (zz n) ++ rest) :: F) h) :
  CallsH Tryz.prog 189 [ptrV rb] h fun v h' => v = .int .i64 n ∧ sat (readerP rb rest :: F) h' := by
 apply F189_ok.ap
 unfold F189
 refine (F183_num (zz_lt hn) h8 H).mono ?_
 rintro v h1 ⟨rfl, H1⟩
 exact ⟨_, rfl, by decide, by rw [unwhole_eq (zz_lt hn), unzz_zz], H1⟩
theorem F122_spec {rb : Nat} {x : Vl} {rest : List Nat} (hx : x.chk = 0) (hi : I64 x.n) (h8 : B8 rest) (H : sat (readerP rb (valB x ++ rest) :: F) h) :
  CallsH Tryz.prog 122 [ptrV rb] h fun v h' => v = x.v ∧ sat (readerP rb rest :: F) h' := by
 have hk := chk_kind hx
 apply F122_ok.ap
 unfold F122
 refine Al_sat H fun b0 h1 H1 => ?_
 unfold valB at H1
 rw [List.cons_append] at H1
 refine (F188_spec (H1.mv 1)).mono ?_
 rintro v h2 ⟨rfl, H2⟩
 refine ⟨_, rfl, ?_⟩
 have ek : IntKind.wrap .i64 ((x.k.toNat : Nat) : Int) = x.k := by
  rw [IntWalk.i64_in _ (by omega)];omega
 dsimp only
 rw [ek]
 refine Al_sat H2 fun b1 h3 H3 => ?_
 refine StCC (i := 0) H3 (by exact Nat.zero_lt_succ _) rfl fun h4 H4 => ?_
 refine StCC (i := 1) H4 (by exact (by decide : 1 < 3)) rfl fun h5 H5 => ?_
 refine StCC (i := 2) H5 (by exact (by decide : 2 < 3)) rfl fun h6 H6 => ?_
 have H7 : sat (pt b1 (.cells #[.int .i64 x.k, .int .i64 0, .string .empty] 84 (0, 0)) :: _) h6 := H6
 clear H6
 refine LdInt (i := 0) H7 rfl ?_
 have fin : ∀ {h7 : Heap} , sat (pt b1 (.cells #[.int .i64 x.k, .int .i64 x.n, .string x.s] 84 (0, 0)) :: readerP rb rest :: pt b0 (.cells #[.int .i64 0, .int .i64 0, .string .empty] 84 (0, 0)) :: F) h7 →
   Ld h7 ((Addr.mk b1 0 none).add 0) fun c0 =>
  Ld h7 ((Addr.mk b1 0 none).add 1) fun c1 =>
  Ld h7 ((Addr.mk b1 0 none).add 2) fun c2 =>
  ∃ (x3 : Int), ∃ (x4 : Int), ∃ (x5 : ByteArray), (Value.agg #[c0, c1, c2]) = .agg #[.int .i64 x3, .int .i64 x4, .string x5] ∧
  CallsH Tryz.prog 190 [.agg #[.int .i64 x3, .int .i64 x4, .string x5]] h7 fun r7 h_10 =>
  DI .i64 r7 fun x6 =>
  (bif (x6 : Int) != 0 then
   False
  else
   Ld h_10 ((Addr.mk b1 0 none).add 0) fun c3 =>
   Ld h_10 ((Addr.mk b1 0 none).add 1) fun c4 =>
   Ld h_10 ((Addr.mk b1 0 none).add 2) fun c5 =>
   ∃ (x7 : Int), ∃ (x8 : Int), ∃ (x9 : ByteArray), (Value.agg #[c3, c4, c5]) = .agg #[.int .i64 x7, .int .i64 x8, .string x9] ∧
   StC h_10 ((Addr.mk b0 0 none).add 0) (.int .i64 x7) fun h_13 =>
   StC h_13 ((Addr.mk b0 0 none).add 1) (.int .i64 x8) fun h_14 =>
   StC h_14 ((Addr.mk b0 0 none).add 2) (.string x9) fun h_15 =>
   Ld h_15 ((Addr.mk b0 0 none).add 0) fun c6 =>
   Ld h_15 ((Addr.mk b0 0 none).add 1) fun c7 =>
   Ld h_15 ((Addr.mk b0 0 none).add 2) fun c8 =>
   ∃ (res0 : Int), ∃ (res1 : Int), ∃ (res2 : ByteArray), (Value.agg #[c6, c7, c8]) = .agg #[.int .i64 res0, .int .i64 res1, .string res2] ∧
   Value.agg #[.int .i64 res0, .int .i64 res1, .string res2] = x.v ∧ sat (readerP rb rest :: F) h_15) := by
  intro h7 K1;refine readVl K1 ?_;refine (F190_spec x K1).mono ?_;rintro v h8 ⟨rfl, K2⟩;refine ⟨_, rfl, ?_⟩;dsimp only;rw [show (x.chk != 0) = false from by rw [hx]; rfl, cond_false];refine readVl K2 ?_;refine StCC (i := 0) (K2.mv 2) (by exact Nat.zero_lt_succ _) rfl fun h9 K3 => ?_;refine StCC (i := 1) K3 (by exact (by decide : 1 < 3)) rfl fun h10 K4 => ?_;refine StCC (i := 2) K4 (by exact (by decide : 2 < 3)) rfl fun h11 K5 => ?_;refine readVl (x := x) K5 ?_;exact ⟨rfl, K5.drop.drop⟩
 have empty : x.k ≠ 3 → x.s = .empty := fun h3 => by
  unfold Vl.chk at hx
  rcases hk with e | e | e | e
  · rw [if_pos e] at hx;split at hx
    · rename_i hh; exact size_nil hh.2
    · cases hx
  · rw [if_neg (by omega), if_pos e] at hx;split at hx
    · rename_i hh; exact size_nil hh
    · cases hx
  · rw [if_neg (by omega), if_neg (by omega), if_pos e] at hx;split at hx
    · rename_i hh; exact size_nil hh.2
    · cases hx
  · exact absurd e h3
 by_cases k1 : x.k = 1
 · rw [keq k1, cond_true];rw [if_pos k1] at H7;refine (F189_spec hi h8 (H7.mv 1)).mono ?_;rintro v h8 ⟨rfl, K1⟩;refine ⟨_, rfl, ?_⟩;rw [addr_add0];refine StCC (i := 1) (K1.mv 1) (by exact (by decide : 1 < 3)) rfl fun h9 K2 => ?_;refine fin ?_;rw [empty (by omega)];exact K2
 rw [kne k1, cond_false]
 rw [if_neg k1] at H7
 by_cases k2 : x.k = 2
 · rw [keq k2, cond_true];rw [if_pos k2] at H7;refine (F188_spec (H7.mv 1)).mono ?_;rintro v h8 ⟨rfl, K1⟩;refine ⟨_, rfl, ?_⟩;have hn : x.n = 0 ∨ x.n = 1 := by
    unfold Vl.chk at hx;rw [if_neg (by omega), if_neg k1, if_pos k2] at hx;split at hx
    · rename_i hh; exact hh.1
    · cases hx
   have en : IntKind.wrap .i64 ((x.n.toNat : Nat) : Int) = x.n := by
    rw [IntWalk.i64_in _ (by omega)];omega
   dsimp only;rw [en, addr_add0];refine StCC (i := 1) (K1.mv 1) (by exact (by decide : 1 < 3)) rfl fun h9 K2 => ?_;refine fin ?_;rw [empty (by omega)];exact K2
 rw [kne k2, cond_false]
 rw [if_neg k2] at H7
 have zero : x.k = 0 ∨ x.k = 3 → x.n = 0 := fun h => by
  unfold Vl.chk at hx
  rcases h with e | e
  · rw [if_pos e] at hx;split at hx
    · rename_i hh; exact hh.1
    · cases hx
  · rw [if_neg (by omega), if_neg k1, if_neg k2, if_pos e] at hx;split at hx
    · rename_i hh; exact hh.1
    · cases hx
 by_cases k3 : x.k = 3
 · rw [keq k3, cond_true];rw [if_pos k3] at H7;refine (F113_text (H7.mv 1)).mono ?_;rintro v h8 ⟨rfl, K1⟩;rw [DS_string];rw [addr_add0];refine StCC (i := 2) (K1.mv 1) (by exact (by decide : 2 < 3)) rfl fun h9 K2 => ?_;refine fin ?_;rw [zero (.inr k3)];exact K2
 rw [kne k3, cond_false]
 rw [if_neg k3] at H7
 refine fin ?_
 rw [zero (.inl (by omega)), empty k3]
 exact H7
theorem infVl : infoSz Tryz.prog 84 3 32 = true := by kernel_rfl
theorem uVs : Tryz.prog.underlying 81 = some (.slice 84) := by kernel_rfl
theorem srcVs : srcTy Tryz.prog 81 = true := by kernel_rfl
theorem infVs : infoOk Tryz.prog 81 24 = true := by kernel_rfl
theorem uRs : Tryz.prog.underlying 24 = some (.slice 81) := by kernel_rfl
theorem srcRs : srcTy Tryz.prog 24 = true := by kernel_rfl
theorem flatV_B8 {l : List Vl} (h : ∀ x ∈ l, x.chk = 0) : B8 (l.flatMap valB) := fun c hc => by
 obtain ⟨x, hx, hc⟩ := List.mem_flatMap.1 hc
 exact valB_B8 (h x hx) c hc
theorem F121_spec {rb : Nat} {xs : List Vl} {rest : List Nat} (hok : rowOk xs = true) (hi : ∀ x ∈ xs, I64 x.n) (h8 : B8 rest) (H : sat (readerP rb (rowB xs ++ rest) :: F) h) :
  CallsH Tryz.prog 121 [ptrV rb, .func (.func 122) #[ptrV rb] #[]] h fun v h' => ∃ a c, v = .slice a xs.length c ∧ sat (ownS 84 3 a xs.length c (xs.flatMap vlC) :: readerP rb rest :: F) h' := by
 have h12 := rowOk_len hok
 have hchk := rowOk_chk hok
 apply F121_ok.ap
 unfold F121
 unfold rowB at H
 rw [List.append_assoc] at H
 refine (F183_num (by omega) (app_B8 (flatV_B8 hchk) h8) H).mono ?_
 rintro v h1 ⟨rfl, H1⟩
 refine ⟨_, rfl, ?_⟩
 obtain ⟨a, c, hc, hl2, H2⟩ := readerP_open H1
 dsimp only
 rw [NN'_some]
 refine LdSl H2 rfl ?_
 have hlong := flat_long (f := valB) (l := xs) fun x _ => valB_pos x
 rw [List.length_append] at hl2
 rw [IntWalk.u64_in _ (by rw [List.length_append]; omega), decide_eq_false (by rw [List.length_append]; omega), cond_false]
 refine LoopH.upto xs.length (fun i (s : Sl × Int) h2 => s.2 = (i : Int) ∧ i ≤ xs.length ∧ s.1.l = i ∧ sat (ownS 84 3 s.1.a i s.1.c ((xs.take i).flatMap vlC) :: readerP rb ((xs.drop i).flatMap valB ++ rest) :: F) h2) (fun s => xs.length - s.2.toNat) (fun i s h2 hh => ⟨hh.2.1, by rw [hh.1]; omega⟩)
  ⟨rfl, Nat.zero_le _, rfl, ownS_nil 84 3 H1⟩ ?_ ?_
 · rintro i ⟨⟨sa, sl, sc⟩, s2⟩ h2 again hi2 ⟨rfl, _, hsl, H3⟩ go;dsimp only at hsl H3 ⊢;subst hsl;rw [decide_eq_true (show ((sl : Int) < (xs.length : Int)) by omega), cond_true];obtain ⟨x, hx⟩ : ∃ x, xs[sl]? = some x := ⟨_, List.getElem?_eq_getElem hi2⟩
   have hxm := List.mem_of_getElem? hx;have hd : xs.drop sl = x :: xs.drop (sl + 1) := by
    rw [List.drop_eq_getElem_cons hi2];congr 1;rw [List.getElem?_eq_getElem hi2] at hx;exact Option.some.inj hx
   rw [hd, List.flatMap_cons, List.append_assoc] at H3;refine CallV_fn ?_;refine (F122_spec (hchk x hxm) (hi x hxm) (app_B8 (flatV_B8 fun y hy => hchk y (List.drop_subset _ _ hy)) h8) (H3.mv 1)).mono ?_;rintro v h3 ⟨rfl, H4⟩;refine ⟨x.k, x.n, x.s, rfl, ?_⟩;refine Al_sat H4 fun b0 h4 H5 => ?_;refine appendN uVs srcVs infVl (H5.mv 2) (n := 1) (ys := vlC x) (srcOf_slice (RdCf H5 rfl) rfl) (by intro u hu; simp [vlC] at hu; rcases hu with rfl | rfl | rfl <;> rfl) (by omega) fun a' c' h5 _ H6 => ?_;rw [DSl_slice];have e : IntKind.wrap .u64 ((sl : Int) + 1) = ((sl + 1 : Nat) : Int) := by rw [IntWalk.u64_in _ (by omega)]; omega
   rw [e];refine go _ _ ⟨rfl, by omega, rfl, ?_⟩;dsimp only;have e2 : (xs.take (sl + 1)).flatMap vlC = (xs.take sl).flatMap vlC ++ vlC x := by
    rw [List.take_add_one, hx, List.flatMap_append];simp
   rw [e2];exact (H6.mv 1).drop
 · rintro ⟨⟨sa, sl, sc⟩, s2⟩ h2 again ⟨rfl, _, hsl, H3⟩;dsimp only at hsl H3 ⊢;subst hsl;rw [decide_eq_false (by omega), cond_false];rw [List.take_length, List.drop_length] at H3;exact ⟨sa, sc, rfl, H3⟩
theorem F120_spec {cb rb : Nat} {xs : List Vl} {rest : List Nat} (hok : rowOk xs = true) (hi : ∀ x ∈ xs, I64 x.n) (h8 : B8 rest) (H : sat (pt cb (.cells #[ptrV rb] 194 (0, 0)) :: readerP rb (rowB xs ++ rest) :: F) h) :
  CallsH Tryz.prog 120 [.pointer (some ⟨cb, 0, none⟩)] h fun v h' => ∃ a c, v = .slice a xs.length c ∧ sat (ownS 84 3 a xs.length c (xs.flatMap vlC) :: pt cb (.cells #[ptrV rb] 194 (0, 0)) :: readerP rb rest :: F) h' := by
 apply F120_ok.ap
 unfold F120
 refine VPt H.get ?_
 refine VPt H.get ?_
 refine (F121_spec hok hi h8 (H.mv 1)).mono ?_
 rintro v h1 ⟨a, c, rfl, H1⟩
 rw [DSl_slice]
 refine (F123_spec (c := c) (xs := xs) (fun h' hh => ownS_read hh) rfl (by have := rowOk_len hok; omega) H1).mono ?_
 rintro v h2 ⟨rfl, H2⟩
 rw [DB_bool, hok, Bool.not_true, cond_false]
 exact ⟨a, c, rfl, H2.ordT 3 [0, 2, 1]⟩
theorem rows1 (xs : List Vl) : rowsB [xs] = 1 :: rowB xs := by
 unfold rowsB
 rw [List.length_singleton, numB_small (by decide), List.flatMap_cons, List.flatMap_nil, List.append_nil]
 rfl
theorem F119_spec {cb rb : Nat} {xs : List Vl} (hok : rowOk xs = true) (hi : ∀ x ∈ xs, I64 x.n) (H : sat (pt cb (.cells #[ptrV rb] 194 (0, 0)) :: readerP rb (rowsB [xs]) :: F) h) :
  CallsH Tryz.prog 119 [ptrV rb, .func (.func 120) #[] #[.pointer (some ⟨cb, 0, none⟩)]] h fun v h' => ∃ a c a2 c2, v = .slice a 1 c ∧ sat (ownS 81 1 a 1 c [.slice a2 xs.length c2] :: ownS 84 3 a2 xs.length c2 (xs.flatMap vlC) :: pt cb (.cells #[ptrV rb] 194 (0, 0)) :: readerP rb [] :: F) h' := by
 apply F119_ok.ap
 unfold F119
 have e1 : rowsB [xs] = numB 1 ++ (rowB xs ++ []) := by rw [rows1, numB_small (by decide), List.append_nil]; rfl
 rw [e1] at H
 refine (F183_num (n := 1) (by decide) (by rw [List.append_nil]; exact rowB_B8 hok) (H.mv 1)).mono ?_
 rintro v h1 ⟨rfl, H1⟩
 refine ⟨_, rfl, ?_⟩
 obtain ⟨a, c, hc, hl2, H2⟩ := readerP_open H1
 dsimp only
 rw [NN'_some]
 refine LdSl H2 rfl ?_
 have hpos : 0 < (rowB xs ++ []).length := by
  unfold rowB;have := numB_pos xs.length;simp only [List.length_append];omega
 rw [IntWalk.u64_in _ (by omega), decide_eq_false (by omega), cond_false]
 refine LoopH.upto 1 (fun i (s : Sl × Int) h2 => s.2 = (i : Int) ∧ i ≤ 1 ∧ s.1.l = i ∧ (i = 0 → sat (ownS 81 1 s.1.a 0 s.1.c [] :: pt cb (.cells #[ptrV rb] 194 (0, 0)) :: readerP rb (rowB xs ++ []) :: F) h2) ∧
   (i = 1 → ∃ a2 c2, sat (ownS 81 1 s.1.a 1 s.1.c [.slice a2 xs.length c2] :: ownS 84 3 a2 xs.length c2 (xs.flatMap vlC) :: pt cb (.cells #[ptrV rb] 194 (0, 0)) :: readerP rb [] :: F) h2)) (fun s => 1 - s.2.toNat) (fun i s h2 hh => ⟨hh.2.1, by rw [hh.1]; omega⟩)
  ⟨rfl, Nat.zero_le _, rfl, fun _ => ownS_nil 81 1 (H1.mv 1), (fun e => by cases e)⟩ ?_ ?_
 · rintro i ⟨⟨sa, sl, sc⟩, s2⟩ h2 again hi1 ⟨rfl, _, hsl, h0, _⟩ go;obtain rfl : i = 0 := by omega
   dsimp only at hsl h0 ⊢;subst hsl;have H3 := h0 rfl;rw [decide_eq_true (show (((0 : Nat) : Int) < ((1 : Nat) : Int)) by decide), cond_true];refine CallV_fn ?_;refine (F120_spec hok hi (fun c hc => by cases hc) (H3.ordT 3 [1, 2, 0])).mono ?_;rintro v h3 ⟨a2, c2, rfl, H4⟩;rw [DSl_slice];refine Al_sat H4 fun b0 h4 H5 => ?_;refine append1 uRs srcRs infVs (H5.mv 4) (ys := [.slice a2 xs.length c2]) (srcOf_slice (RdCf H5 rfl) rfl) (by intro u hu; simp at hu; subst hu; rfl) (by decide) fun a' c' h5 _ H6 => ?_;rw [DSl_slice];have e : IntKind.wrap .u64 (((0 : Nat) : Int) + 1) = ((1 : Nat) : Int) := rfl;rw [e];refine go _ _ ⟨rfl, by decide, rfl, (fun e => by cases e), fun _ => ⟨a2, c2, ?_⟩⟩;dsimp only;exact H6.ordT 5 [0, 2, 3, 4]
 · rintro ⟨⟨sa, sl, sc⟩, s2⟩ h2 again ⟨rfl, _, hsl, _, h1⟩;dsimp only at hsl h1 ⊢;subst hsl;obtain ⟨a2, c2, H3⟩ := h1 rfl;rw [decide_eq_false (by decide), cond_false];exact ⟨sa, sc, a2, c2, rfl, H3⟩
theorem F187_idle {a b : Option Addr} {h : Heap} {K : Heap → Prop} (H : K h) : DeferH Tryz.prog 187 [.pointer a, .pointer b] h K := by
 have idle : ∀ w : World, CallsDIn Fence.wide 0 Tryz.prog 187 #[.pointer a, .pointer b] .returning w fun e u' w' => e = .returned (.tuple #[]) ∧ u' = .returning ∧ w' = w := by
  intro w;refine callsDIn_of_wpSIn Tryz.func187 rfl trivial fun c₀ cs hu => ?_;apply wpSIn_seq;apply wpSIn_region;simp [wpOpsSIn, go_sem, recoverD, hu, Exit.thenS];apply wpSIn_seq;apply wpSIn_region;simp [wpOpsSIn, go_sem, Exit.thenS];refine wpSIn_cond (t := false) (by simp [Act.eval, Array.replicate]) ?_;simp only [Bool.false_eq_true, if_false];refine wpSIn_of_wpIn rfl (wpIn_skip ?_);cases c₀
  simp_all [bodyPostS, results]
 refine ⟨by kernel_rfl, fun w hw => ?_⟩
 refine (idle w).mono ?_
 rintro e u' w' ⟨rfl, rfl, rfl⟩
 exact ⟨⟨_, rfl⟩, rfl, by rw [hw]; exact H, ⟨rfl, rfl, rfl⟩⟩
theorem F38_spec {a : Option Addr} {c : Nat} {xs : List Vl} (hok : rowOk xs = true) (hi : ∀ x ∈ xs, I64 x.n) (hc : (rowsB [xs]).length ≤ c) (H : sat (roP (fun h => RdC h a ((rowsB [xs]).map nv)) :: F) h) :
  CallsH Tryz.prog 38 [.slice a (rowsB [xs]).length c] h fun v h' => ∃ a1 c1 a2 c2, v = .tuple #[.slice a1 1 c1, .int .i64 0] ∧ sat (ownS 81 1 a1 1 c1 [.slice a2 xs.length c2] :: ownS 84 3 a2 xs.length c2 (xs.flatMap vlC) :: F) h' := by
 have hlen := rowB_len hok hi
 have hl : (rowsB [xs]).length ≤ 2701 := by rw [rows1, List.length_cons]; omega
 apply F38_ok.ap
 unfold F38
 refine CallsH.mono (Q := fun v h' => ∃ a1 c1 a2 c2, v = .tuple #[.slice a1 1 c1, .int .i64 0] ∧ sat (ownS 81 1 a1 1 c1 [.slice a2 xs.length c2] :: ownS 84 3 a2 xs.length c2 (xs.flatMap vlC) :: F) h') ?_ ?_
 · apply F117_ok.ap;unfold F117;refine Al_sat H fun b1 h1 H1 => ?_;refine Al_sat H1 fun b2 h2 H2 => ?_;refine Al_sat H2 fun b3 h3 H3 => ?_;have H4 : sat (readerP b3 (rowsB [xs]) :: pt b2 (.cells #[.int .i64 0] 25 (0, 0)) :: pt b1 (.cells #[.slice none 0 0] 24 (0, 0)) :: F) h3 := readerP_shut (a := a) hc (by omega) (H3.ordT 4 [0, 3, 1, 2]);refine CallV_fn ?_;apply F118_ok.ap;unfold F118;refine Al_sat H4 fun b4 h4 H5 => ?_;refine VPt H5.get ?_;refine (F119_spec hok hi H5).mono ?_;rintro v h5 ⟨a4, c4, a5, c5, rfl, H6⟩;rw [DSl_slice];show DSl (.slice a4 1 c4) _;rw [DSl_slice];refine StCC (H6.mv 5) (by exact Nat.zero_lt_one) rfl fun h6 H7 => ?_;obtain ⟨a6, c6, _, _, H8⟩ := readerP_open (H7.mv 4);refine LdSl H8 rfl ?_;rw [show decide ((([] : List Nat).length : Int) > 0) = false from rfl, cond_false, decide_eq_false (show ¬ (((rowsB [xs]).length : Int) > 16777216) by omega), cond_false];refine VSl (H8.mv 2).get ?_;refine StCC (H8.mv 2) (by exact Nat.zero_lt_one) rfl fun h7 H9 => ?_;refine StCC (H9.mv 6) (by exact Nat.zero_lt_one) rfl fun h8 H10 => ?_;refine F187_idle ?_;refine VSl (H10.mv 1).get ?_;refine VIn H10.get ?_;exact ⟨a4, c4, a5, c5, rfl, H10.ordT 7 [4, 5]⟩
 · rintro v h' ⟨a', c', a2, c2, rfl, H'⟩;exact ⟨a', _, c', 0, rfl, a', c', a2, c2, rfl, H'⟩
end
end Go.Proofs.YtibdiikcigokjaaGreatDoor
