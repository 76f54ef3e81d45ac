/- Loops that count, whole numbers as naturals, and the way out: what holds of a run is what a law asks. -/
import Derived.Test.YticjjdhaikbdaaaFw9
import Derived.IntWalk
namespace Go.Proofs.Yticjjdhaikbdaaa
open Go Go.RowKit
set_option linter.unusedVariables false
set_option linter.unusedSimpArgs false

theorem LoopH.count {S : Type} {F : (S → Heap → Prop) → S → Heap → Prop} {h : Heap} (n : Nat) (st : Nat → S) (m : S → Nat) (hm : ∀ i, i ≤ n → m (st i) = n - i)
    (step : ∀ i again, i < n → again (st (i + 1)) h → F again (st i) h) (last : ∀ again, F again (st n) h) : LoopH F (st 0) h := by
  refine ⟨fun s h' => h' = h ∧ ∃ i, i ≤ n ∧ s = st i, fun s _ => m s, ⟨rfl, 0, Nat.zero_le _, rfl⟩, ?_⟩
  rintro s h' ⟨rfl, i, hi, rfl⟩
  rcases Nat.lt_or_ge i n with hl | hl
  · exact step i _ hl ⟨⟨rfl, i + 1, hl, rfl⟩, by show m _ < m _; rw [hm (i + 1) hl, hm i hi]; omega⟩
  · have : i = n := by omega
    subst this
    exact last _
theorem LoopH.upto {S : Type} {F : (S → Heap → Prop) → S → Heap → Prop} {s0 : S} {h0 : Heap} (n : Nat) (J : Nat → S → Heap → Prop) (m : S → Nat) (hm : ∀ i s h, J i s h → i ≤ n ∧ m s = n - i) (start : J 0 s0 h0)
    (step : ∀ i s h again, i < n → J i s h → (∀ s' h', J (i + 1) s' h' → again s' h') → F again s h) (last : ∀ s h again, J n s h → F again s h) : LoopH F s0 h0 := by
  refine ⟨fun s h' => ∃ i, J i s h', fun s _ => m s, ⟨0, start⟩, ?_⟩
  rintro s h' ⟨i, hi⟩
  obtain ⟨hle, hmi⟩ := hm i s h' hi
  rcases Nat.lt_or_ge i n with hl | hl
  · refine step i s h' _ hl hi fun s2 h2 hj => ⟨⟨i + 1, hj⟩, ?_⟩
    obtain ⟨_, hmj⟩ := hm _ _ _ hj
    show m _ < m _
    rw [hmj, hmi]
    omega
  · have : i = n := by omega
    subst this
    exact last _ _ _ hi

/-! ### bits -/
theorem xor32 {a b : Nat} (ha : a < 4294967296) (hb : b < 4294967296) : bitsI .xor .u32 (a : Int) (b : Int) = ((a ^^^ b : Nat) : Int) := by
  have h := Nat.xor_lt_two_pow (n := 32) ha hb
  show IntKind.u32.wrap ((BitVec.ofInt 32 (a : Int) ^^^ BitVec.ofInt 32 (b : Int)).toNat : Int) = _
  rw [BitVec.ofInt_natCast, BitVec.ofInt_natCast, BitVec.toNat_xor, BitVec.toNat_ofNat, BitVec.toNat_ofNat, Nat.mod_eq_of_lt (show a < 2 ^ 32 from ha), Nat.mod_eq_of_lt (show b < 2 ^ 32 from hb)]
  exact IntWalk.u32_in _ (by omega)
theorem and32 {a b : Nat} (ha : a < 4294967296) (hb : b < 4294967296) : bitsI .and .u32 (a : Int) (b : Int) = ((a &&& b : Nat) : Int) := by
  have h := Nat.and_lt_two_pow (n := 32) a hb
  show IntKind.u32.wrap ((BitVec.ofInt 32 (a : Int) &&& BitVec.ofInt 32 (b : Int)).toNat : Int) = _
  rw [BitVec.ofInt_natCast, BitVec.ofInt_natCast, BitVec.toNat_and, BitVec.toNat_ofNat, BitVec.toNat_ofNat, Nat.mod_eq_of_lt (show a < 2 ^ 32 from ha), Nat.mod_eq_of_lt (show b < 2 ^ 32 from hb)]
  exact IntWalk.u32_in _ (by omega)
theorem xor64 {a b : Nat} (ha : a < 18446744073709551616) (hb : b < 18446744073709551616) : bitsI .xor .u64 (a : Int) (b : Int) = ((a ^^^ b : Nat) : Int) := by
  have h := Nat.xor_lt_two_pow (n := 64) ha hb
  show IntKind.u64.wrap ((BitVec.ofInt 64 (a : Int) ^^^ BitVec.ofInt 64 (b : Int)).toNat : Int) = _
  rw [BitVec.ofInt_natCast, BitVec.ofInt_natCast, BitVec.toNat_xor, BitVec.toNat_ofNat, BitVec.toNat_ofNat, Nat.mod_eq_of_lt (show a < 2 ^ 64 from ha), Nat.mod_eq_of_lt (show b < 2 ^ 64 from hb)]
  exact IntWalk.u64_in _ (by omega)
theorem xor8 {a b : Nat} (ha : a < 256) (hb : b < 256) : bitsI .xor .u8 (a : Int) (b : Int) = ((a ^^^ b : Nat) : Int) := by
  have h := Nat.xor_lt_two_pow (n := 8) ha hb
  show IntKind.u8.wrap ((BitVec.ofInt 8 (a : Int) ^^^ BitVec.ofInt 8 (b : Int)).toNat : Int) = _
  rw [BitVec.ofInt_natCast, BitVec.ofInt_natCast, BitVec.toNat_xor, BitVec.toNat_ofNat, BitVec.toNat_ofNat, Nat.mod_eq_of_lt (show a < 2 ^ 8 from ha), Nat.mod_eq_of_lt (show b < 2 ^ 8 from hb)]
  exact IntWalk.u8_in _ (by omega)
theorem shrI_nat (k : IntKind) (a n : Nat) (hn : n ≤ k.bits) : shrI k (a : Int) (n : Int) = ((a / 2 ^ n : Nat) : Int) := by
  unfold shrI
  rw [Int.toNat_natCast, Nat.min_eq_left hn, Int.fdiv_eq_ediv_of_nonneg _ (by exact Int.pow_nonneg (by decide))]
  simp
theorem wrap64_nat {n : Nat} (h : n < 9223372036854775808) : IntKind.i64.wrap (n : Int) = (n : Int) := IntWalk.i64_in _ (by omega)
theorem wrap64_succ {n : Nat} (h : n < 9223372036854775807) : IntKind.i64.wrap ((n : Int) + 1) = ((n + 1 : Nat) : Int) := by
  rw [IntWalk.i64_in _ (by omega)]
  omega
theorem tmod_nat (a b : Nat) : Int.tmod (a : Int) (b : Int) = ((a % b : Nat) : Int) := by
  rw [Int.tmod_eq_emod_of_nonneg (by omega)]
  simp
theorem tdiv_nat (a b : Nat) : Int.tdiv (a : Int) (b : Int) = ((a / b : Nat) : Int) := by
  rw [Int.tdiv_eq_ediv_of_nonneg (by omega)]
  simp

/-- What a law asks of its function. -/
theorem below_of {P : Program} {k : FuncId} {args : List Value} {w : World} {Q : Value → Prop} (H : CallsH P k args w.heap fun v h' => Q v ∧ sat [old w.heap] h') :
    Calls P k args.toArray w fun e w' => (∃ v, e = .returned v ∧ Q v) ∧ Below w.heap.size w w' := by
  refine Calls.mono (callsIn_wide.1 (H.2 w rfl)) ?_
  rintro e w' ⟨v, he, ⟨hq, hs⟩, hsame⟩
  exact ⟨⟨v, he, hq⟩, hsame.os, hsame.tape, hsame.output, hs.oldSize, fun k hk => hs.oldGet hk⟩

/-- What every law comes to. -/
def Good (h0 : Heap) (v : Value) (h' : Heap) : Prop := v = .bool true ∧ sat [old h0] h'
theorem good_same (h : Heap) : Good h (.bool true) h := ⟨rfl, sat_old h⟩
theorem good_of {h0 h : Heap} {F : List HProp} (H : sat (old h0 :: F) h) : Good h0 (.bool true) h := ⟨rfl, H.dropTail (l := [old h0])⟩
theorem law_of {P : Program} {k : FuncId} {args : List Value} {w : World} (H : CallsH P k args w.heap (Good w.heap)) :
    Calls P k args.toArray w fun e w' => e = .returned (.bool true) ∧ Below w.heap.size w w' :=
  (below_of (Q := fun v => v = .bool true) H).mono fun e w' ⟨⟨v, he, hv⟩, hb⟩ => ⟨by rw [he, hv], hb⟩
def nv (n : Nat) : Value := .int .u8 (n : Int)
theorem row_read {w : World} {a : Option Addr} {len cap : Nat} {zs : List Int}
    (H : (a = none ∧ len = 0 ∧ cap = 0 ∧ zs = []) ∨ ∃ x, a = some x ∧ len ≤ cap ∧ cap ≤ maxLen ∧ zs.length = cap ∧ (∀ i, i < zs.length → w.cell? (x.add i) = some (.int .u8 (zs.getD i 0))) ∧ ∀ n ∈ zs, (Lit.int .u8 n).wf = true) :
    ∃ cs : List Nat, RdC w.heap a (cs.map nv) ∧ cs.length = len ∧ len ≤ maxLen ∧ ∀ n ∈ cs, n < 256 := by
  rcases H with ⟨rfl, rfl, rfl, rfl⟩ | ⟨x, rfl, hl, hc, hz, hcell, hwf⟩
  · exact ⟨[], rfl, rfl, Nat.zero_le _, by simp⟩
  · refine ⟨(zs.take len).map Int.toNat, ?_, by rw [List.length_map, List.length_take]; omega, by omega, ?_⟩
    · intro j v hv
      rw [List.map_map, List.getElem?_map, List.getElem?_take] at hv
      split at hv
      · rename_i hj
        cases hzj : zs[j]? with
        | none => rw [hzj] at hv; cases hv
        | some z =>
          rw [hzj] at hv
          simp only [Option.map_some, Option.some.injEq] at hv
          subst hv
          have hc2 := hcell j (by omega)
          rw [cell_world, List.getD_eq_getElem?_getD, hzj] at hc2
          have hw := hwf z (List.mem_of_getElem? hzj)
          simp only [Lit.wf, Bool.and_eq_true, decide_eq_true_eq] at hw
          have h0 : (0 : Int) ≤ z := hw.1
          rw [hc2]
          simp only [Option.getD_some, Function.comp, nv]
          rw [Int.toNat_of_nonneg h0]
      · cases hv
    · intro n hn
      obtain ⟨z, hz2, rfl⟩ := List.mem_map.1 hn
      have hw := hwf z (List.mem_of_mem_take hz2)
      simp only [Lit.wf, Bool.and_eq_true, decide_eq_true_eq] at hw
      have h0 : (0 : Int) ≤ z := hw.1
      have h1 : z ≤ 255 := hw.2
      omega
theorem wf_nat8 {x : Int} (h : (Lit.int .u8 x).wf = true) : ∃ n : Nat, x = (n : Int) ∧ n < 256 := by
  simp only [Lit.wf, Bool.and_eq_true, decide_eq_true_eq] at h
  have h0 : (0 : Int) ≤ x := h.1
  have h1 : x ≤ 255 := h.2
  exact ⟨x.toNat, by omega, by omega⟩
theorem wf_nat16 {x : Int} (h : (Lit.int .u16 x).wf = true) : ∃ n : Nat, x = (n : Int) ∧ n < 65536 := by
  simp only [Lit.wf, Bool.and_eq_true, decide_eq_true_eq] at h
  have h0 : (0 : Int) ≤ x := h.1
  have h1 : x ≤ 65535 := h.2
  exact ⟨x.toNat, by omega, by omega⟩
theorem wf_nat32 {x : Int} (h : (Lit.int .u32 x).wf = true) : ∃ n : Nat, x = (n : Int) ∧ n < 4294967296 := by
  simp only [Lit.wf, Bool.and_eq_true, decide_eq_true_eq] at h
  have h0 : (0 : Int) ≤ x := h.1
  have h1 : x ≤ 4294967295 := h.2
  exact ⟨x.toNat, by omega, by omega⟩

end Go.Proofs.Yticjjdhaikbdaaa
