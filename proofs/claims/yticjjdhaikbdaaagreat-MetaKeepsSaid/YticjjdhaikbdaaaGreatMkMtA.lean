/- Pairs as bytes. -/
import Derived.Test.YticjjdhaikbdaaaGreatMkMt9
namespace Go.Proofs.YticjjdhaikbdaaaGreat
open Go Go.RowKit Go.MapKept
set_option linter.unusedVariables false
set_option linter.unusedSimpArgs false

set_option maxRecDepth 20000 in
theorem or8_128 (m : Nat) : bitsI .or .u8 (IntKind.wrap .u8 (m : Int)) 128 = ((m % 128 + 128 : Nat) : Int) := by
  rw [u8_of_nat]
  have h : ∀ x : Fin 256, bitsI .or .u8 (x.val : Int) 128 = ((x.val % 128 + 128 : Nat) : Int) := by decide
  have := h ⟨m % 256, Nat.mod_lt _ (by decide)⟩
  rw [this]
  have e : m % 256 % 128 = m % 128 := Nat.mod_mod_of_dvd _ (by decide)
  simp only [e]
section
variable {F : List HProp} {h : Heap}
theorem F178_spec {n : Nat} (hn : n < 18446744073709551616) (H : sat F h) : CallsH Tryz.prog 178 [.int .u64 (n : Int)] h fun v h' => ∃ (a : Option Addr) (c : Nat), v = .slice a (numB n).length c ∧ sat (ownS 5 1 a (numB n).length c ((numB n).map nv) :: F) h' := by
  apply F178_ok
  unfold F178
  refine ⟨fun (s : Int × Sl) h2 => ∃ (m : Nat) (pre : List Nat), s.1 = (m : Int) ∧ m < 18446744073709551616 ∧ pre ++ numB m = numB n ∧ s.2.l = pre.length ∧ pre.length < 64 ∧ (m < 2 ^ (64 - pre.length)) ∧ sat (ownS 5 1 s.2.a s.2.l s.2.c (pre.map nv) :: F) h2,
    fun s _ => s.1.toNat, ⟨n, [], rfl, hn, rfl, rfl, by decide, by simpa using hn, ownS_nil 5 1 H⟩, ?_⟩
  rintro ⟨s1, ⟨sa, sl, sc⟩⟩ h2 ⟨m, pre, rfl, hm, hp, rfl, hl, hm2, H2⟩
  simp only at H2 ⊢
  by_cases h128 : m < 128
  · rw [decide_eq_false (show ¬ ((m : Int) ≥ 128) by omega), cond_false]
    rw [numB_small h128] at hp
    refine Al_sat H2 fun b1 h3 H3 => ?_
    have e : IntKind.wrap .u8 (m : Int) = ((m : Nat) : Int) := by rw [u8_of_nat, Nat.mod_eq_of_lt (by omega)]
    rw [e] at H3
    refine appB u40 src40 inf5b (H3.mv 1) (srcB (ys := [m]) (RdCf H3 rfl) rfl) (by omega) fun a' c' h4 _ H4 => ?_
    rw [DSl_slice]
    rw [hp] at H4
    have hlen : pre.length + 1 = (numB n).length := by rw [← hp]; simp
    rw [hlen] at H4 ⊢
    exact ⟨a', c', rfl, (H4.mv 1).drop⟩
  · rw [decide_eq_true (show ((m : Int) ≥ 128) by omega), cond_true]
    rw [numB_big h128] at hp
    refine Al_sat H2 fun b1 h3 H3 => ?_
    rw [or8_128] at H3
    refine appB u40 src40 inf5b (H3.mv 1) (srcB (ys := [m % 128 + 128]) (RdCf H3 rfl) rfl) (by omega) fun a' c' h4 _ H4 => ?_
    rw [DSl_slice]
    refine ⟨by decide, ?_⟩
    have e : shrI .u64 (m : Int) 7 = ((m / 128 : Nat) : Int) := shrI_nat .u64 m 7 (by decide)
    have hlt : pre.length + 1 < 64 := by
      rcases Nat.lt_or_ge (pre.length + 1) 64 with h | h
      · exact h
      · have : 2 ^ (64 - pre.length) ≤ 2 ^ 1 := Nat.pow_le_pow_right (by decide) (by omega)
        omega
    refine ⟨⟨m / 128, pre ++ [m % 128 + 128], e, by omega, ?_, by simp, by simpa using hlt, ?_, (H4.mv 1).drop⟩, ?_⟩
    · rw [List.append_assoc]
      exact hp
    · have h1 : 2 ^ (64 - pre.length) = 2 ^ (64 - (pre.length + 1)) * 2 := by
        rw [← Nat.pow_succ]
        congr 1
        omega
      have : m / 128 < 2 ^ (64 - (pre.length + 1)) := by
        rw [Nat.div_lt_iff_lt_mul (by decide)]
        omega
      simpa using this
    · show (shrI .u64 (m : Int) 7).toNat < ((m : Int)).toNat
      rw [e]
      omega
theorem F152_spec {s : ByteArray} (hs : s.size ≤ 1099511627776) (H : sat F h) : CallsH Tryz.prog 152 [.string s] h fun v h' => ∃ (a : Option Addr) (c : Nat), v = .slice a (wordB (sb s)).length c ∧ sat (ownS 5 1 a (wordB (sb s)).length c ((wordB (sb s)).map nv) :: F) h' := by
  apply F152_ok
  unfold F152
  have e : IntKind.wrap .u64 ((s.size : Nat) : Int) = ((s.size : Nat) : Int) := IntWalk.u64_in _ (by omega)
  rw [e]
  refine (F178_spec (n := s.size) (by omega) H).mono ?_
  rintro v h1 ⟨a, c, rfl, H1⟩
  rw [DSl_slice]
  have hl := numB_length 6 s.size (by omega)
  refine appB u40 (by kernel_rfl) inf5b H1 (srcS s) (by omega) fun a' c' h2 _ H2 => ?_
  rw [DSl_slice]
  have e2 : wordB (sb s) = numB s.size ++ sb s := by unfold wordB; rw [sb_length]
  have e3 : (numB s.size).length + s.size = (wordB (sb s)).length := by rw [e2, List.length_append, sb_length]
  rw [← e2, e3] at H2
  rw [e3]
  exact ⟨a', c', rfl, H2⟩
theorem F151_spec {k x : ByteArray} (hk : k.size ≤ 1000000000) (hx : x.size ≤ 1000000000) (H : sat F h) : CallsH Tryz.prog 151 [.agg #[.string k, .string x]] h fun v h' => ∃ (a : Option Addr) (c : Nat), v = .slice a (pairB (sb k, sb x)).length c ∧ sat (ownS 5 1 a (pairB (sb k, sb x)).length c ((pairB (sb k, sb x)).map nv) :: F) h' := by
  apply F151_ok
  unfold F151
  refine Al_sat H fun b0 h1 H1 => ?_
  refine LdStr (x := k) H1 rfl ?_
  refine LdStr (x := x) H1 rfl ?_
  refine (F152_spec (by omega) H1).mono ?_
  rintro v h2 ⟨a, c, rfl, H2⟩
  rw [DSl_slice]
  refine ⟨rfl, LdStr (x := x) (H2.mv 1) rfl rfl, ?_⟩
  refine (F152_spec (by omega) H2).mono ?_
  rintro v h3 ⟨a2, c2, rfl, H3⟩
  rw [DSl_slice]
  have l1 : (wordB (sb k)).length ≤ 2000000000 := by
    unfold wordB
    have := numB_length 6 (sb k).length (by rw [sb_length]; omega)
    rw [List.length_append, sb_length] at *
    omega
  have l2 : (wordB (sb x)).length ≤ 2000000000 := by
    unfold wordB
    have := numB_length 6 (sb x).length (by rw [sb_length]; omega)
    rw [List.length_append, sb_length] at *
    omega
  refine appB u40 src40 inf5b (H3.mv 1) (srcB (ownS_read H3) rfl) (by omega) fun a' c' h4 _ H4 => ?_
  rw [DSl_slice]
  have e3 : (wordB (sb k)).length + (wordB (sb x)).length = (pairB (sb k, sb x)).length := by unfold pairB; rw [List.length_append]
  rw [e3] at H4 ⊢
  exact ⟨a', c', rfl, (H4.ordT 3 [0])⟩
def pairC (p : ByteArray × ByteArray) : List Value := [.string p.1, .string p.2]
theorem pairC_len (p : ByteArray × ByteArray) : (pairC p).length = 2 := rfl
def pairsN (ps : List (ByteArray × ByteArray)) : List Nat := pairsB (ps.map fun p => (sb p.1, sb p.2))
def preN (n : Nat) (ps : List (ByteArray × ByteArray)) : List Nat := numB n ++ ps.flatMap fun p => pairB (sb p.1, sb p.2)
theorem preN_all (ps : List (ByteArray × ByteArray)) : preN ps.length ps = pairsN ps := by
  unfold preN pairsN pairsB
  rw [List.length_map, List.flatMap_map]
theorem preN_le (n : Nat) (ps : List (ByteArray × ByteArray)) (i : Nat) : (preN n (ps.take i)).length ≤ (preN n ps).length := by
  unfold preN
  rw [List.length_append, List.length_append]
  have : (ps.flatMap fun p => pairB (sb p.1, sb p.2)) = ((ps.take i).flatMap fun p => pairB (sb p.1, sb p.2)) ++ ((ps.drop i).flatMap fun p => pairB (sb p.1, sb p.2)) := by
    rw [← List.flatMap_append, List.take_append_drop]
  rw [this, List.length_append]
  omega
theorem F150_spec {la : Option Addr} {ll lc : Nat} {ps : List (ByteArray × ByteArray)} (hr : ∀ h', sat F h' → RdC h' la (ps.flatMap pairC)) (hl : ps.length = ll) (hll : ll < 1000000000) (hp : ∀ p ∈ ps, p.1.size ≤ 1000000000 ∧ p.2.size ≤ 1000000000) (hsz : (pairsN ps).length ≤ 1099511627776) (H : sat F h) :
    CallsH Tryz.prog 150 [.slice la ll lc, .func (.func 151) #[] #[]] h fun v h' => ∃ (a : Option Addr) (c : Nat), v = .slice a (pairsN ps).length c ∧ sat (ownS 5 1 a (pairsN ps).length c ((pairsN ps).map nv) :: F) h' := by
  apply F150_ok
  unfold F150
  have e : IntKind.wrap .u64 ((ll : Nat) : Int) = ((ps.length : Nat) : Int) := by rw [hl]; exact IntWalk.u64_in _ (by omega)
  rw [e]
  refine (F178_spec (n := ps.length) (by omega) H).mono ?_
  rintro v h1 ⟨a, c, rfl, H1⟩
  rw [DSl_slice]
  rw [← preN_all] at hsz
  refine LoopH.upto ll (fun i (s : Sl × Int) h2 => s.2 = (i : Int) ∧ i ≤ ll ∧ s.1.l = (preN ps.length (ps.take i)).length ∧ sat (ownS 5 1 s.1.a s.1.l s.1.c ((preN ps.length (ps.take i)).map nv) :: F) h2) (fun s => ll - s.2.toNat) (fun i s h2 hh => ⟨hh.2.1, by rw [hh.1]; omega⟩)
    ⟨rfl, Nat.zero_le _, by simp [preN], by simpa [preN] using H1⟩ ?_ ?_
  · rintro i ⟨⟨sa, sl, sc⟩, s2⟩ h2 again hi ⟨rfl, _, rfl, H2⟩ go
    simp only at H2 ⊢
    rw [decide_eq_true (show ((i : Int) < (ll : Int)) by omega), cond_true]
    obtain ⟨⟨k, x⟩, hx⟩ : ∃ x, ps[i]? = some x := ⟨_, List.getElem?_eq_getElem (by omega)⟩
    have hkx : k.size ≤ 1000000000 ∧ x.size ≤ 1000000000 := hp _ (List.mem_of_getElem? hx)
    refine IdxC (f := pairC) (sz := 2) (x := (k, x)) pairC_len (by decide) (hr _ H2.drop) hl hx fun b hb hc => ?_
    refine ⟨.string k, hc 0 _ rfl, .string x, hc 1 _ rfl, k, x, rfl, ?_⟩
    refine Al_sat H2 fun b1 h3 H3 => ?_
    simp only [addr_add0]
    refine StC_sat H3 (by decide) (nofz_zero 2 0 (by decide)) fun h4 H4 => ?_
    refine StC_sat (i := 1) H4 (by simp) (nofz_zero 2 1 (by decide)) fun h5 H5 => ?_
    have H6 : sat (pt b1 (.cells #[.string k, .string x] 146 (0, 0)) :: ownS 5 1 sa (preN ps.length (ps.take i)).length sc ((preN ps.length (ps.take i)).map nv) :: F) h5 := H5
    refine ⟨.string k, by rw [cellAt_of H6.get]; rfl, ?_⟩
    refine ⟨.string x, cell_pt (i := 1) H6 rfl, k, x, rfl, ?_⟩
    refine CallV_fn ?_
    refine (F151_spec hkx.1 hkx.2 H6).mono ?_
    rintro v h6 ⟨a2, c2, rfl, H7⟩
    rw [DSl_slice]
    have hpre : preN ps.length (ps.take (i + 1)) = preN ps.length (ps.take i) ++ pairB (sb k, sb x) := by
      rw [List.take_add_one, hx]
      unfold preN
      rw [List.flatMap_append, ← List.append_assoc]
      simp
    have hle := preN_le ps.length ps (i + 1)
    rw [hpre, List.length_append] at hle
    refine appB u40 src40 inf5b (H7.mv 2) (srcB (ownS_read H7) rfl) (by omega) fun a' c' h8 _ H8 => ?_
    rw [DSl_slice, wrap64_succ (by omega)]
    refine go _ _ ⟨rfl, by omega, ?_, ?_⟩
    · rw [hpre, List.length_append]
    · rw [hpre]
      exact (H8.mv 1).drop.mv 1 |>.drop
  · rintro ⟨⟨sa, sl, sc⟩, s2⟩ h2 again ⟨rfl, _, rfl, H2⟩
    simp only at H2 ⊢
    rw [decide_eq_false (by omega), cond_false]
    rw [List.take_of_length_le (by omega), preN_all] at H2 ⊢
    exact ⟨sa, sc, rfl, H2⟩
theorem F96_spec {la : Option Addr} {ll lc : Nat} {ps : List (ByteArray × ByteArray)} (hr : ∀ h', sat F h' → RdC h' la (ps.flatMap pairC)) (hl : ps.length = ll) (hll : ll < 1000000000) (hp : ∀ p ∈ ps, p.1.size ≤ 1000000000 ∧ p.2.size ≤ 1000000000) (hsz : (pairsN ps).length ≤ 1099511627776) (H : sat F h) :
    CallsH Tryz.prog 96 [.slice la ll lc] h fun v h' => (16777216 < (pairsN ps).length ∧ v = .tuple #[.slice none 0 0, .int .i64 42] ∧ sat F h') ∨
      ((pairsN ps).length ≤ 16777216 ∧ ∃ (a : Option Addr) (c : Nat), v = .tuple #[.slice a (pairsN ps).length c, .int .i64 0] ∧ sat (ownS 5 1 a (pairsN ps).length c ((pairsN ps).map nv) :: F) h') := by
  apply F96_ok
  unfold F96
  refine (F150_spec hr hl hll hp hsz H).mono ?_
  rintro v h1 ⟨a, c, rfl, H1⟩
  rw [DSl_slice]
  apply F149_ok
  unfold F149
  by_cases hb : 16777216 < (pairsN ps).length
  · rw [decide_eq_true (show (((pairsN ps).length : Int) > 16777216) by omega), cond_true]
    exact ⟨none, 0, 0, 42, rfl, .inl ⟨hb, rfl, H1.drop⟩⟩
  · rw [decide_eq_false (show ¬ (((pairsN ps).length : Int) > 16777216) by omega), cond_false]
    exact ⟨a, _, c, 0, rfl, .inr ⟨by omega, a, c, rfl, H1⟩⟩
end

end Go.Proofs.YticjjdhaikbdaaaGreat
