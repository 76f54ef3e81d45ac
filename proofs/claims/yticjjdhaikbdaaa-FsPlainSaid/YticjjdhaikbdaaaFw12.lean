/- Appends by the type's facts, whole numbers of four bytes. -/
import Derived.Test.YticjjdhaikbdaaaFw11
namespace Go.Proofs.Yticjjdhaikbdaaa
open Go Go.RowKit
set_option linter.unusedVariables false
set_option linter.unusedSimpArgs false

def infoOk (P : Program) (e : TypeId) (b : Nat) : Bool :=
  match P.info? e with
  | some i => match i.zero with
    | some z => Nat.beq z.cells.size 1 && Nat.beq i.size 1 && Nat.beq i.bytes b && Nat.ble 1 b
    | none => false
  | none => false
theorem infoOk_ex {P : Program} {e : TypeId} {b : Nat} (h : infoOk P e b = true) : ∃ i z, P.info? e = some i ∧ i.zero = some z ∧ z.cells.size = 1 ∧ i.size = 1 ∧ i.bytes = b ∧ 1 ≤ b := by
  unfold infoOk at h
  split at h
  · rename_i i hi
    split at h
    · rename_i z hz
      simp only [Bool.and_eq_true] at h
      exact ⟨i, z, hi, hz, Nat.eq_of_beq_eq_true h.1.1.1, Nat.eq_of_beq_eq_true h.1.1.2, Nat.eq_of_beq_eq_true h.1.2, Nat.le_of_ble_eq_true h.2⟩
    · cases h
  · cases h
theorem append1 {P : Program} {h : Heap} {F : List HProp} {a : Option Addr} {l c : Nat} {xs ys : List Value} {t u ty e : TypeId} {b : Nat} {x : Value} {n : Nat} {K : Value → Heap → Prop}
    (ht : P.underlying t = some (.slice e)) (hu : srcTy P u = true) (hi : infoOk P e b = true)
    (H : sat (ownS e 1 a l c xs :: F) h) (hx : SrcOf P h 1 x n ys) (h1 : ∀ u ∈ ys, u.oneCell' = true) (hb : (l + n) * b ≤ 140737488355328)
    (hK : ∀ a' c' h', (a' = none → l + n = 0) → sat (ownS e 1 a' (l + n) c' (xs ++ ys) :: F) h' → K (.slice a' (l + n) c') h') :
    RunH P (Builtin.append_ #[t, u] ty #[.slice a l c, x]) h K := by
  obtain ⟨i, z, e1, e2, e3, e4, e5, e6⟩ := infoOk_ex hi
  subst e5
  have hle : l + n ≤ (l + n) * i.bytes := Nat.le_mul_of_pos_right _ (by omega)
  refine append_sat ht hu e1 e2 (by rw [e3, e4]) (by omega) (by rw [e4]; exact H) (by rw [e4]; exact hx) h1 (by omega) hb (by unfold maxLen; omega) ?_
  rw [e4]
  exact hK
theorem pushL {P : Program} {h : Heap} {F : List HProp} {α : Type} {E : α → Value → HProp} {a : Option Addr} {l c : Nat} {xs : List α} {t u ty e : TypeId} {b : Nat} {v : Value} {a2 : Option Addr} {x : α} {c2 : Nat} {K : Value → Heap → Prop}
    (ht : P.underlying t = some (.slice e)) (hu : srcTy P u = true) (hi : infoOk P e b = true) (hb : (l + 1) * b ≤ 140737488355328)
    (H : sat (ownL E e a l c xs :: E x v :: F) h) (hv : v.oneCell' = true) (hr : RdC h a2 [v])
    (hK : ∀ a' c' h', sat (ownL E e a' (l + 1) c' (xs ++ [x]) :: F) h' → K (.slice a' (l + 1) c') h') :
    RunH P (Builtin.append_ #[t, u] ty #[.slice a l c, .slice a2 1 c2]) h K := by
  obtain ⟨i, z, e1, e2, e3, e4, e5, e6⟩ := infoOk_ex hi
  subst e5
  have hle : l + 1 ≤ (l + 1) * i.bytes := Nat.le_mul_of_pos_right _ (by omega)
  exact ownL_push ht hu e1 e2 e4 e3 (by omega) hb H hv hr hK
/-- The nil slice, and bytes behind. -/
theorem appB {P : Program} {h : Heap} {F : List HProp} {a : Option Addr} {l c : Nat} {xs ys : List Nat} {t u ty e : TypeId} {x : Value} {n : Nat} {K : Value → Heap → Prop}
    (ht : P.underlying t = some (.slice e)) (hu : srcTy P u = true) (hi : infoOk P e 1 = true)
    (H : sat (ownS e 1 a l c (xs.map nv) :: F) h) (hx : SrcOf P h 1 x n (ys.map nv)) (hb : l + n ≤ 140737488355328)
    (hK : ∀ a' c' h', (a' = none → l + n = 0) → sat (ownS e 1 a' (l + n) c' ((xs ++ ys).map nv) :: F) h' → K (.slice a' (l + n) c') h') :
    RunH P (Builtin.append_ #[t, u] ty #[.slice a l c, x]) h K :=
  append1 ht hu hi H hx (oneCell_nv ys) (by omega) fun a' c' h' h0 H' => hK a' c' h' h0 (by rw [List.map_append]; exact H')
theorem srcB {P : Program} {h : Heap} {a : Option Addr} {n c : Nat} {ys : List Nat} (hr : RdC h a (ys.map nv)) (hl : ys.length = n) : SrcOf P h 1 (.slice a n c) n (ys.map nv) :=
  srcOf_slice hr (by simp [hl])
theorem srcS {P : Program} {h : Heap} (s : ByteArray) : SrcOf P h 1 (.string s) s.size ((sb s).map nv) := by
  rw [← sb_cells]
  exact srcOf_string s
theorem bytesOfB {P : Program} {h : Heap} {F : List HProp} {src dst e : TypeId} {s : ByteArray} {K : Value → Heap → Prop} (hs : P.underlying src = some .string) (hd : P.underlying dst = some (.slice e)) (he : P.underlying e = some (.int .u8))
    (hz : s.size ≤ maxLen) (H : sat F h) (hK : ∀ b c h', sat (ownS e 1 (some ⟨b, 0, none⟩) s.size c ((sb s).map nv) :: F) h' → K (.slice (some ⟨b, 0, none⟩) s.size c) h') :
    RunH P (Go.convert src dst (.string s)) h K :=
  bytesOf_sat hs hd he hz H fun b c h' H' => hK b c h' (by rw [← sb_cells]; exact H')

/-! ### what came in stays -/
theorem RdC.old {h h' : Heap} {F : List HProp} {a : Option Addr} {xs : List Value} (H : RdC h a xs) (hs : sat (old h :: F) h') : RdC h' a xs := by
  cases a with
  | none => exact H
  | some a => exact fun j v hv => hs.oldCell (H j v hv)
theorem strs_read {w : World} {a : Option Addr} {len cap : Nat} {zs : List ByteArray}
    (H : (a = none ∧ len = 0 ∧ cap = 0 ∧ zs = []) ∨ ∃ x, a = some x ∧ len ≤ cap ∧ cap ≤ maxLen ∧ zs.length = cap ∧ (∀ i, i < zs.length → w.cell? (x.add i) = some (.string (zs.getD i ByteArray.empty))) ∧ ∀ n ∈ zs, n.size ≤ maxLen) :
    ∃ ss : List ByteArray, RdC w.heap a (ss.map Value.string) ∧ ss.length = len ∧ len ≤ maxLen := by
  rcases H with ⟨rfl, rfl, rfl, rfl⟩ | ⟨x, rfl, hl, hc, hz, hcell, _⟩
  · exact ⟨[], rfl, rfl, Nat.zero_le _⟩
  · refine ⟨zs.take len, ?_, by rw [List.length_take]; omega, by omega⟩
    intro j v hv
    rw [List.getElem?_map, List.getElem?_take] at hv
    split at hv
    · rename_i hj
      have hc2 := hcell j (by omega)
      rw [cell_world, List.getD_eq_getElem?_getD] at hc2
      rw [hc2]
      rw [List.getElem?_eq_getElem (by omega)] at hv ⊢
      simpa using hv
    · cases hv

/-! ### numbers -/
theorem or32 {a b : Nat} (ha : a < 4294967296) (hb : b < 4294967296) : bitsI .or .u32 (a : Int) (b : Int) = ((a ||| b : Nat) : Int) := by
  have h := Nat.or_lt_two_pow (n := 32) ha hb
  show IntKind.u32.wrap ((BitVec.ofInt 32 (a : Int) ||| BitVec.ofInt 32 (b : Int)).toNat : Int) = _
  rw [BitVec.ofInt_natCast, BitVec.ofInt_natCast, BitVec.toNat_or, BitVec.toNat_ofNat, BitVec.toNat_ofNat, Nat.mod_eq_of_lt (show a < 2 ^ 32 from ha), Nat.mod_eq_of_lt (show b < 2 ^ 32 from hb)]
  exact IntWalk.u32_in _ (by omega)
theorem or_add (a : Nat) {b i : Nat} (hb : b < 2 ^ i) : (2 ^ i * a) ||| b = 2 ^ i * a + b := (Nat.two_pow_add_eq_or_of_lt hb a).symm
theorem shl32 {x n : Nat} (hn : n ≤ 32) (h : x * 2 ^ n < 4294967296) : shlI .u32 (x : Int) (n : Int) = ((x * 2 ^ n : Nat) : Int) := by
  unfold shlI
  rw [Int.toNat_natCast, show min n IntKind.u32.bits = n from Nat.min_eq_left hn, show (x : Int) * 2 ^ n = ((x * 2 ^ n : Nat) : Int) by simp]
  exact IntWalk.u32_in _ (by omega)
theorem be_num {x0 x1 x2 x3 : Nat} (h0 : x0 < 256) (h1 : x1 < 256) (h2 : x2 < 256) (h3 : x3 < 256) :
    bitsI .or .u32 (bitsI .or .u32 (bitsI .or .u32 (shlI .u32 (IntKind.wrap .u32 (x0 : Int)) 24) (shlI .u32 (IntKind.wrap .u32 (x1 : Int)) 16)) (shlI .u32 (IntKind.wrap .u32 (x2 : Int)) 8)) (IntKind.wrap .u32 (x3 : Int))
      = ((x0 * 16777216 + x1 * 65536 + x2 * 256 + x3 : Nat) : Int) := by
  rw [IntWalk.u32_in (x0 : Int) (by omega), IntWalk.u32_in (x1 : Int) (by omega), IntWalk.u32_in (x2 : Int) (by omega), IntWalk.u32_in (x3 : Int) (by omega)]
  rw [show (24 : Int) = ((24 : Nat) : Int) from rfl, show (16 : Int) = ((16 : Nat) : Int) from rfl, show (8 : Int) = ((8 : Nat) : Int) from rfl]
  rw [shl32 (by decide) (by omega), shl32 (by decide) (by omega), shl32 (by decide) (by omega)]
  rw [or32 (by omega) (by omega), show x0 * 2 ^ 24 = 2 ^ 24 * x0 by omega, or_add x0 (b := x1 * 2 ^ 16) (by omega)]
  rw [or32 (by omega) (by omega), show 2 ^ 24 * x0 + x1 * 2 ^ 16 = 2 ^ 16 * (256 * x0 + x1) by omega, or_add _ (b := x2 * 2 ^ 8) (by omega)]
  rw [or32 (by omega) (by omega), show 2 ^ 16 * (256 * x0 + x1) + x2 * 2 ^ 8 = 2 ^ 8 * (65536 * x0 + 256 * x1 + x2) by omega, or_add _ (b := x3) (by omega)]
theorem u8_of_nat (n : Nat) : IntKind.wrap .u8 (n : Int) = ((n % 256 : Nat) : Int) := by
  rw [IntKind.wrap_u8]
  omega
theorem bool_eq {x y : Int} {m n : Nat} (hx : x = m) (hy : y = n) : (x == y) = decide (m = n) := by
  subst hx hy
  by_cases h : m = n
  · subst h; simp
  · have : ¬ ((m : Int) = (n : Int)) := by omega
    simp [h, this]
theorem beqN (m n : Nat) : ((m : Int) == (n : Int)) = decide (m = n) := bool_eq rfl rfl
theorem bneN (m n : Nat) : ((m : Int) != (n : Int)) = decide (m ≠ n) := by
  rw [bne, beqN]
  simp

end Go.Proofs.Yticjjdhaikbdaaa
