/- No file system: what it answers. -/
import Derived.Test.YticjjdhaikbdaaaFs25
namespace Go.Proofs.Yticjjdhaikbdaaa
open Go Go.RowKit
set_option linter.unusedVariables false
set_option linter.unusedSimpArgs false

section
variable {h : Heap} {F : List HProp} {dir name k : ByteArray} {a : Option Addr} {l c : Nat} {n t : Int}
abbrev Nil1 (F : List HProp) : Value → Heap → Prop := fun v h' => v = .int .i64 1 ∧ sat F h'
theorem n16 (H : sat F h) : CallsH Try.prog 16 [.pointer none, .string dir] h (Nil1 F) := by
  apply F16_ok
  unfold F16
  refine F56_nil.mono ?_
  rintro v h1 ⟨rfl, rfl⟩
  exact ⟨none, 1, rfl, rfl, H⟩
theorem n17 (H : sat F h) : CallsH Try.prog 17 [.pointer none, .string dir, .string name] h (Nil1 F) := by
  apply F17_ok
  unfold F17
  refine Al_sat H fun b0 h1 H1 => ?_
  refine LdV (v := .string name) H1.get rfl ?_
  rw [DS_string]
  refine Al_sat H1 fun b1 h2 H2 => ?_
  refine F56_nil.mono ?_
  rintro v h3 ⟨rfl, rfl⟩
  exact ⟨none, 1, rfl, rfl, H2.drop.drop⟩
theorem n18 (H : sat F h) : CallsH Try.prog 18 [.pointer none, .string dir, .string name, .slice a l c] h (Nil1 F) := by
  apply F18_ok
  unfold F18
  refine (F60_nil H).mono ?_
  rintro v h1 ⟨rfl, H1⟩
  exact ⟨none, none, 1, rfl, rfl, H1⟩
theorem n19 (H : sat F h) : CallsH Try.prog 19 [.pointer none, .string dir, .string name] h (Nil1 F) := by
  apply F19_ok
  unfold F19
  refine (F60_nil H).mono ?_
  rintro v h1 ⟨rfl, H1⟩
  exact ⟨none, none, 1, rfl, rfl, H1⟩
theorem n20 (H : sat F h) : CallsH Try.prog 20 [.pointer none, .string dir] h (Nil1 F) := by
  apply F20_ok
  unfold F20
  refine F56_nil.mono ?_
  rintro v h1 ⟨rfl, rfl⟩
  exact ⟨none, 1, rfl, rfl, H⟩
theorem n22 (H : sat F h) : CallsH Try.prog 22 [.pointer none, .string dir, .string name, .string k] h (Nil1 F) := by
  apply F22_ok
  unfold F22
  refine Al_sat H fun b0 h1 H1 => Al_sat H1 fun b1 h2 H2 => ?_
  refine LdV (v := .string name) (H2.mv 1).get rfl ?_
  rw [DS_string]
  refine LdV (v := .string k) H2.get rfl ?_
  rw [DS_string]
  refine Al_sat H2 fun b2 h3 H3 => ?_
  refine F56_nil.mono ?_
  rintro v h4 ⟨rfl, rfl⟩
  exact ⟨none, 1, rfl, rfl, H3.drop.drop.drop⟩
theorem n29 (H : sat F h) : CallsH Try.prog 29 [.pointer none, .string dir, .string name] h (Nil1 F) := by
  apply F29_ok
  unfold F29
  refine Al_sat H fun b0 h1 H1 => ?_
  refine LdV (v := .string name) H1.get rfl ?_
  rw [DS_string]
  refine (F60_nil H1).mono ?_
  rintro v h2 ⟨rfl, H2⟩
  exact ⟨none, none, 1, rfl, rfl, H2.drop⟩
theorem n69 (H : sat F h) : CallsH Try.prog 69 [.pointer none, .int .i64 n] h (Nil1 F) := by
  apply F69_ok
  exact ⟨rfl, H⟩
theorem n21 (H : sat F h) : CallsH Try.prog 21 [.pointer none, .int .i64 n] h (Nil1 F) := by
  apply F21_ok
  exact ⟨rfl, H⟩
theorem n24 (H : sat F h) : CallsH Try.prog 24 [.pointer none, .slice a l c] h (Nil1 F) := by
  apply F24_ok
  unfold F24
  refine Al_sat H fun b0 h1 H1 => ?_
  exact ⟨rfl, H1.drop⟩
theorem n70 (H : sat F h) : CallsH Try.prog 70 [.pointer none, .string dir, .string name, .int .i64 n, .int .u8 t] h (Nil1 F) := by
  apply F70_ok
  exact ⟨rfl, H⟩
theorem n71 (H : sat F h) : CallsH Try.prog 71 [.pointer none, .string dir, .string name, .slice a l c] h (Nil1 F) := by
  apply F71_ok
  exact ⟨rfl, H⟩
theorem n25 (H : sat F h) : CallsH Try.prog 25 [.pointer none, .string dir, .string name] h fun v h' => v = .tuple #[.slice none 0 0, .int .i64 1] ∧ sat F h' := by
  apply F25_ok
  unfold F25
  refine (F60_nil H).mono ?_
  rintro v h1 ⟨rfl, H1⟩
  exact ⟨none, none, 1, rfl, rfl, H1⟩
theorem n30 (H : sat F h) : CallsH Try.prog 30 [.pointer none, .string dir] h fun v h' => v = .tuple #[.slice none 0 0, .int .i64 1] ∧ sat F h' := by
  apply F30_ok
  unfold F30
  refine F56_nil.mono ?_
  rintro v h1 ⟨rfl, rfl⟩
  exact ⟨none, 1, rfl, rfl, H⟩
theorem n37 (H : sat F h) : CallsH Try.prog 37 [.pointer none] h fun v h' => v = .slice none 0 0 ∧ sat F h' := by
  apply F37_ok
  exact ⟨rfl, H⟩
theorem n31 (H : sat F h) : CallsH Try.prog 31 [.pointer none] h fun v h' => v = .int .i64 0 ∧ sat F h' := by
  apply F31_ok
  exact ⟨rfl, H⟩
theorem n23 (H : sat F h) : CallsH Try.prog 23 [.pointer none] h fun v h' => v = .int .i64 0 ∧ sat F h' := by
  apply F23_ok
  exact ⟨rfl, H⟩
theorem n32 (H : sat F h) : CallsH Try.prog 32 [.pointer none] h fun v h' => v = .bool false ∧ sat F h' := by
  apply F32_ok
  exact ⟨rfl, H⟩
end
/-- The cells of an act. -/
abbrev actC (a0 : Int) (a1 a2 a3 : ByteArray) (a4 a5 : Int) (a : Option Addr) (l c : Nat) : Array Value := #[.int .i64 a0, .string a1, .string a2, .string a3, .int .i64 a4, .int .u8 a5, .slice a l c]
theorem Do_nil {h : Heap} {F : List HProp} {a0 : Int} {a1 a2 a3 : ByteArray} {a4 a5 : Int} {a : Option Addr} {l c : Nat} (hk : 0 ≤ a0 ∧ a0 ≤ 11) (hz : a3.size ≤ maxLen) (H : sat F h) :
    CallsH Try.prog 34 [.pointer none, .agg (actC a0 a1 a2 a3 a4 a5 a l c)] h (Nil1 F) := by
  apply F34_ok
  unfold F34
  refine Al_sat H fun b0 h1 H1 => ?_
  have go : ∀ {k : FuncId} {args : List Value} {F' : List HProp} {h' : Heap}, CallsH Try.prog k args h' (Nil1 F') → (∀ h'', sat F' h'' → sat F h'') → CallsH Try.prog k args h' fun r h'' => DI .i64 r fun x => Nil1 F (Value.int .i64 x) h'' := by
    intro k args F' h' hc hd
    refine hc.mono ?_
    rintro v h'' ⟨rfl, H2⟩
    rw [DI_int]
    exact ⟨rfl, hd _ H2⟩
  have d1 : ∀ h'', sat (pt b0 (.cells (actC a0 a1 a2 a3 a4 a5 a l c) 45 (0, 0)) :: F) h'' → sat F h'' := fun h'' hh => hh.drop
  refine LdC (i := 0) (v := .int .i64 a0) H1 rfl ?_
  rw [DI_int]
  by_cases h0 : a0 = 0
  · subst h0
    rw [show ((0 : Int) == 0) = true from rfl, cond_true]
    refine LdC (i := 1) (v := .string a1) H1 rfl ?_
    rw [DS_string]
    exact go (n16 H1) d1
  rw [show (a0 == 0) = false by rw [beq_eq_false_iff_ne]; exact h0, cond_false]
  by_cases h0 : a0 = 1
  · subst h0
    rw [show ((1 : Int) == 1) = true from rfl, cond_true]
    refine LdC (i := 1) (v := .string a1) H1 rfl ?_
    rw [DS_string]
    refine LdC (i := 2) (v := .string a2) H1 rfl ?_
    rw [DS_string]
    exact go (n17 H1) d1
  rw [show (a0 == 1) = false by rw [beq_eq_false_iff_ne]; exact h0, cond_false]
  by_cases h0 : a0 = 2
  · subst h0
    rw [show ((2 : Int) == 2) = true from rfl, cond_true]
    refine LdC (i := 3) (v := .string a3) H1 rfl ?_
    rw [DS_string]
    refine cText H1 hz fun xa xc h2 H2 => ?_
    rw [DSl_slice]
    refine LdC (i := 1) (v := .string a1) (H2.mv 1) rfl ?_
    rw [DS_string]
    refine LdC (i := 2) (v := .string a2) (H2.mv 1) rfl ?_
    rw [DS_string]
    refine (n18 H2).mono ?_
    rintro v h3 ⟨rfl, H3⟩
    rw [DI_int]
    have hlen := ownS_len H3
    refine ⟨fun st hh => ∃ i : Nat, st = (i : Int) ∧ i ≤ a3.size ∧ ∃ xs : List Nat, sat (ownS 5 1 xa a3.size xc (xs.map nv) :: pt b0 (.cells (actC 2 a1 a2 a3 a4 a5 a l c) 45 (0, 0)) :: F) hh, fun st _ => ((a3.size : Int) - st).toNat, ⟨0, rfl, Nat.zero_le _, _, H3⟩, ?_⟩
    rintro st h4 ⟨i, rfl, hi, xs, H4⟩
    have hxl : xs.length = a3.size := by have := (ownS_len H4).1; simpa using this
    by_cases hlt : i < a3.size
    · rw [decide_eq_true (show ((i : Int) < (a3.size : Int)) by omega), cond_true]
      obtain ⟨x, hx⟩ : ∃ x, xs[i]? = some x := ⟨_, List.getElem?_eq_getElem (by omega)⟩
      have hrd := ownS_read H4
      have hxv : (xs.map nv)[i]? = some (nv x) := by rw [List.getElem?_map, hx]; rfl
      refine IdxA_nat hrd (by rw [List.length_map]; exact hxl) hxv fun ba hba hc => ⟨_, hc, ?_⟩
      show DI .u8 (.int .u8 (x : Int)) _
      rw [DI_int]
      refine IdxA_nat hrd (by rw [List.length_map]; exact hxl) hxv fun ba2 hba2 hc2 => ?_
      obtain ⟨y, hy⟩ : ∃ y : Nat, bitsI .xor .u8 (x : Int) 255 = (y : Int) := by
        refine ⟨(bitsI .xor .u8 (x : Int) 255).toNat, ?_⟩
        have : (0 : Int) ≤ bitsI .xor .u8 (x : Int) 255 := by
          show (0 : Int) ≤ IntKind.u8.wrap _
          rw [IntKind.wrap_u8]
          omega
        omega
      rw [hy, addr_add0]
      subst hba2
      refine ownS_set (j := i) (v := nv y) H4 (by rw [List.length_map]; omega) fun h5 H5 => ?_
      rw [wrap64_succ (by have : maxLen = 9223372036854775807 := by decide
                          omega)]
      rw [← List.map_set] at H5
      refine ⟨⟨i + 1, rfl, by omega, _, H5⟩, ?_⟩
      show ((a3.size : Int) - ((i + 1 : Nat) : Int)).toNat < ((a3.size : Int) - (i : Int)).toNat
      omega
    · rw [decide_eq_false (by omega), cond_false]
      exact ⟨rfl, H4.drop.drop⟩
  rw [show (a0 == 2) = false by rw [beq_eq_false_iff_ne]; exact h0, cond_false]
  by_cases h0 : a0 = 3
  · subst h0
    rw [show ((3 : Int) == 3) = true from rfl, cond_true]
    refine LdC (i := 1) (v := .string a1) H1 rfl ?_
    rw [DS_string]
    refine LdC (i := 2) (v := .string a2) H1 rfl ?_
    rw [DS_string]
    exact go (n19 H1) d1
  rw [show (a0 == 3) = false by rw [beq_eq_false_iff_ne]; exact h0, cond_false]
  by_cases h0 : a0 = 4
  · subst h0
    rw [show ((4 : Int) == 4) = true from rfl, cond_true]
    refine LdC (i := 1) (v := .string a1) H1 rfl ?_
    rw [DS_string]
    exact go (n20 H1) d1
  rw [show (a0 == 4) = false by rw [beq_eq_false_iff_ne]; exact h0, cond_false]
  by_cases h0 : a0 = 5
  · subst h0
    rw [show ((5 : Int) == 5) = true from rfl, cond_true]
    refine LdC (i := 1) (v := .string a1) H1 rfl ?_
    rw [DS_string]
    refine LdC (i := 2) (v := .string a2) H1 rfl ?_
    rw [DS_string]
    refine LdC (i := 3) (v := .string a3) H1 rfl ?_
    rw [DS_string]
    exact go (n22 H1) d1
  rw [show (a0 == 5) = false by rw [beq_eq_false_iff_ne]; exact h0, cond_false]
  by_cases h0 : a0 = 6
  · subst h0
    rw [show ((6 : Int) == 6) = true from rfl, cond_true]
    refine LdC (i := 1) (v := .string a1) H1 rfl ?_
    rw [DS_string]
    refine LdC (i := 2) (v := .string a2) H1 rfl ?_
    rw [DS_string]
    exact go (n29 H1) d1
  rw [show (a0 == 6) = false by rw [beq_eq_false_iff_ne]; exact h0, cond_false]
  by_cases h0 : a0 = 7
  · subst h0
    rw [show ((7 : Int) == 7) = true from rfl, cond_true]
    refine LdC (i := 4) (v := .int .i64 a4) H1 rfl ?_
    rw [DI_int]
    exact go (n69 H1) d1
  rw [show (a0 == 7) = false by rw [beq_eq_false_iff_ne]; exact h0, cond_false]
  by_cases h0 : a0 = 8
  · subst h0
    rw [show ((8 : Int) == 8) = true from rfl, cond_true]
    refine LdC (i := 4) (v := .int .i64 a4) H1 rfl ?_
    rw [DI_int]
    exact go (n21 H1) d1
  rw [show (a0 == 8) = false by rw [beq_eq_false_iff_ne]; exact h0, cond_false]
  by_cases h0 : a0 = 9
  · subst h0
    rw [show ((9 : Int) == 9) = true from rfl, cond_true]
    refine LdC (i := 6) (v := .slice a l c) H1 rfl ?_
    rw [DSl_slice]
    exact go (n24 H1) d1
  rw [show (a0 == 9) = false by rw [beq_eq_false_iff_ne]; exact h0, cond_false]
  by_cases h0 : a0 = 10
  · subst h0
    rw [show ((10 : Int) == 10) = true from rfl, cond_true]
    refine LdC (i := 1) (v := .string a1) H1 rfl ?_
    rw [DS_string]
    refine LdC (i := 2) (v := .string a2) H1 rfl ?_
    rw [DS_string]
    refine LdC (i := 4) (v := .int .i64 a4) H1 rfl ?_
    rw [DI_int]
    refine LdC (i := 5) (v := .int .u8 a5) H1 rfl ?_
    rw [DI_int]
    exact go (n70 H1) d1
  rw [show (a0 == 10) = false by rw [beq_eq_false_iff_ne]; exact h0, cond_false]
  have h11 : a0 = 11 := by omega
  subst h11
  rw [show ((11 : Int) == 11) = true from rfl, cond_true]
  refine LdC (i := 1) (v := .string a1) H1 rfl ?_
  rw [DS_string]
  refine LdC (i := 2) (v := .string a2) H1 rfl ?_
  rw [DS_string]
  refine LdC (i := 3) (v := .string a3) H1 rfl ?_
  rw [DS_string]
  refine cText H1 hz fun xa xc h2 H2 => ?_
  rw [DSl_slice]
  exact go (n71 H2) fun h'' hh => hh.drop.drop
theorem FsNil_law {a0 : Int} {a1 a2 a3 : ByteArray} {a4 a5 : Int} {a : Option Addr} {l c : Nat} (h : Heap) (hz : a3.size ≤ maxLen) : CallsH Try.prog 7 [.agg (actC a0 a1 a2 a3 a4 a5 a l c)] h (Good h) := by
  apply F7_ok
  unfold F7
  refine Al_sat (sat_old h) fun b0 h1 H1 => ?_
  refine (F14_spec H1).mono ?_
  rintro v h2 ⟨rfl, H2⟩
  rw [DB_bool, Bool.not_true, cond_false]
  refine LdC (i := 6) (v := .slice a l c) H2 rfl ?_
  rw [DSl_slice]
  by_cases hp : l > 1000
  · rw [decide_eq_true (show ((l : Int) > 1000) by omega), cond_true]
    exact good_of H2.drop
  rw [decide_eq_false (show ¬ ((l : Int) > 1000) by omega), cond_false]
  refine LdC (i := 1) (v := .string a1) H2 rfl ?_
  rw [DS_string]
  refine LdC (i := 2) (v := .string a2) H2 rfl ?_
  rw [DS_string]
  refine (n25 H2).mono ?_
  rintro v h3 ⟨rfl, H3⟩
  refine ⟨none, 0, 0, 1, rfl, ?_⟩
  refine LdC (i := 1) (v := .string a1) H3 rfl ?_
  rw [DS_string]
  refine (n30 H3).mono ?_
  rintro v h4 ⟨rfl, H4⟩
  refine ⟨none, 0, 0, 1, rfl, ?_⟩
  refine LdC (i := 0) (v := .int .i64 a0) H4 rfl ?_
  rw [DI_int]
  have tail : ∀ h4, sat (pt b0 (.cells (actC a0 a1 a2 a3 a4 a5 a l c) 45 (0, 0)) :: [old h]) h4 →
      (bif ((1 : Int) : Int) == 1 then
          (bif ((1 : Int) : Int) == 1 then
            CallsH Try.prog 37 [.pointer none] h4 fun r13 h_13 =>
            DSl r13 fun x27a x27l x27c =>
            (bif ((x27l : Int) : Int) == 0 then
              CallsH Try.prog 31 [.pointer none] h_13 fun r14 h_14 =>
              DI .i64 r14 fun x28 =>
              (bif (x28 : Int) == 0 then
                CallsH Try.prog 23 [.pointer none] h_14 fun r15 h_15 =>
                DI .i64 r15 fun x29 =>
                (bif (x29 : Int) == 0 then
                  CallsH Try.prog 32 [.pointer none] h_15 fun r16 h_16 =>
                  DB r16 fun x30 =>
                  Good h (.bool (!x30)) h_16
                else
                  Good h (.bool false) h_15)
              else
                Good h (.bool false) h_14)
            else
              Good h (.bool false) h_13)
          else
            Good h (.bool false) h4)
        else
          Good h (.bool false) h4) := by
    intro h4 H4
    rw [show ((1 : Int) == 1) = true from rfl, cond_true, cond_true]
    refine (n37 H4).mono ?_
    rintro v h5 ⟨rfl, H5⟩
    rw [DSl_slice, show ((((0 : Nat) : Int)) == 0) = true from rfl, cond_true]
    refine (n31 H5).mono ?_
    rintro v h6 ⟨rfl, H6⟩
    rw [DI_int, show ((0 : Int) == 0) = true from rfl, cond_true]
    refine (n23 H6).mono ?_
    rintro v h7 ⟨rfl, H7⟩
    rw [DI_int, show ((0 : Int) == 0) = true from rfl, cond_true]
    refine (n32 H7).mono ?_
    rintro v h8 ⟨rfl, H8⟩
    rw [DB_bool]
    exact good_of H8.drop
  by_cases hlo : 0 ≤ a0
  · rw [decide_eq_true (show a0 ≥ 0 from hlo), cond_true]
    refine LdC (i := 0) (v := .int .i64 a0) H4 rfl ?_
    rw [DI_int]
    by_cases hhi : a0 ≤ 11
    · rw [decide_eq_true hhi, Bool.not_true, cond_false]
      refine LdC (i := 0) H4 rfl (LdC (i := 1) H4 rfl (LdC (i := 2) H4 rfl (LdC (i := 3) H4 rfl (LdC (i := 4) H4 rfl (LdC (i := 5) H4 rfl (LdC (i := 6) H4 rfl ?_))))))
      refine ⟨a0, a1, a2, a3, a4, a5, a, l, c, rfl, ?_⟩
      refine (Do_nil ⟨hlo, hhi⟩ hz H4).mono ?_
      rintro v h5 ⟨rfl, H5⟩
      rw [DI_int, show ((1 : Int) == 1) = true from rfl, cond_true]
      exact tail h5 H5
    · rw [decide_eq_false hhi, Bool.not_false, cond_true]
      exact tail h4 H4
  · rw [decide_eq_false (show ¬ (a0 ≥ 0) from hlo), cond_false]
    exact tail h4 H4

end Go.Proofs.Yticjjdhaikbdaaa
