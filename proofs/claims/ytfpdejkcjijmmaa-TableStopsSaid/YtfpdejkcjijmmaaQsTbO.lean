/- The law TableStops (seat T). -/
import Derived.Test.YtfpdejkcjijmmaaQsTbN
namespace Go.Proofs.Ytfpdejkcjijmmaa.TS
open Go Go.RowKit
open Tb (T get set del Up Has)
open AF (ltB strLt_irrefl strLt_trans strLt_total)
set_option linter.unusedVariables false
set_option linter.unusedSimpArgs false

section
variable {h : Heap} {F : List HProp}
theorem F13_nil {key : ByteArray} {x : VT} : CallsH Try.prog 13 [.pointer none, .string key, ve x] h fun v h' => v = .tuple #[] ∧ h' = h := by
  apply F13_ok
  unfold F13
  rw [show (none : Option Addr).isNone = true from rfl, cond_true]
  exact ⟨rfl, by trivial⟩
theorem F11_nil {key : ByteArray} : CallsH Try.prog 11 [.pointer none, .string key] h fun v h' => v = getV [] key ∧ h' = h := by
  apply F11_ok
  unfold F11
  exact ⟨rfl, by trivial⟩
theorem F15_nil {key : ByteArray} : CallsH Try.prog 15 [.pointer none, .string key] h fun v h' => v = .bool false ∧ h' = h := by
  apply F15_ok
  unfold F15
  refine F11_nil.mono ?_
  rintro v h1 ⟨rfl, rfl⟩
  refine ⟨_, _, rfl, ?_⟩
  exact ⟨rfl, by trivial⟩
theorem F22_nil : CallsH Try.prog 22 [.pointer none] h fun v h' => v = .int .i64 0 ∧ h' = h := by
  apply F22_ok
  unfold F22
  exact ⟨rfl, by trivial⟩
end
/-- Where a turn of TableStops stands, ahead of its table. -/
abbrev stT (b2 b0 b1 : Nat) (stop : Int) (l : T VT) (ma : Option Addr) (mc : Nat) (ds : List Nat) (h : Heap) : List HProp :=
  [pt b2 (.cells #[.slice ma l.length mc] 27 (0, 0)), roS ma (l.flatMap pairC), pt b0 (.cells #[.int .u8 stop] 5 (0, 0)), pt b1 (.cells #[.bool false] 4 (0, 0)), marks ds, old h]
theorem TableStops_law {a : Option Addr} {la ca : Nat} {os : List Op} {stop : Int} (h : Heap) (hra : RdC h a (os.flatMap opC)) (hla : os.length = la) :
    CallsH Try.prog 4 [.slice a la ca, .int .u8 stop] h (Good h) := by
  apply F4_ok
  unfold F4
  refine Al_sat (sat_old h) fun b0 h0 H0 => Al_sat H0 fun b1 h1 H1 => ?_
  -- b1, b0, old
  refine (TI.F8_spec H1).mono ?_
  rintro v h2 ⟨rfl, H2⟩
  rw [DB_bool, Bool.not_true, cond_false]
  refine (F9_spec (hra.old (H2.mv 2)) hla).mono ?_
  rintro v h3 ⟨rfl, z, rfl, hz⟩
  rw [DB_bool]
  cases z with
  | true =>
    rw [cond_true]
    refine StCC (b := b1) (i := 0) H2 (show (0 : Nat) < 1 by decide) rfl fun h4 H4 => ?_
    refine LdV (v := .bool true) H4.get rfl ?_
    rw [DB_bool]
    exact good_of (H4.mv 2)
  | false =>
  rw [cond_false]
  have hla3 := hz rfl
  refine (F20_spec (fun h' H' => by have := H'.mv 2; exact hra.old this) hla (by omega) H2).mono ?_
  rintro v h4 ⟨bt, ma, mc, rfl, H4⟩
  refine ⟨_, _, _, _, rfl, ?_⟩
  have hAl := mk_len os
  have UA := mk_up os
  generalize mk os = A at *
  -- tabP, roS, b1, b0, old
  refine Al_sat H4 fun b2 h5 H5 => StCC H5 (show (0 : Nat) < 1 by decide) rfl fun h6 H6 => ?_
  -- b2, tabP, roS, b1, b0, old
  refine (F21_spec (by omega) (H6.mv 1)).mono ?_
  rintro v h7 ⟨q, c0, c1, rfl, H7⟩
  refine ⟨_, rfl, ?_⟩
  -- seqP, tabP, b2, roS, b1, b0, old
  refine (F13_spec (x := (⟨#[110, 101, 119]⟩ : ByteArray)) (H7.mv 1)).mono ?_
  rintro v h8 ⟨rfl, H8⟩
  refine ⟨rfl, ?_⟩
  refine (F15_spec H8).mono ?_
  rintro v h9 ⟨rfl, H9⟩
  rw [DB_bool]
  -- tabP, seqP, b2, roS, b1, b0, old
  refine Al_sat H9 fun b3 h10 H10 => StCC H10 (show (0 : Nat) < 1 by decide) rfl fun h11 H11 => ?_
  have J : sat (pt b3 (.cells #[.int .i64 ((0 : Nat) : Int)] 3 (0, 0)) :: seqP q c0 c1 A :: stT b2 b0 b1 stop A ma mc [] h) h11 := by
    have H12 : sat (pt b3 (.cells #[.int .i64 ((0 : Nat) : Int)] 3 (0, 0)) :: tabP bt (del (set (⟨#[122, 122]⟩ : ByteArray) (⟨#[110, 101, 119]⟩ : ByteArray) A) (⟨#[97]⟩ : ByteArray)) :: seqP q c0 c1 A :: pt b2 (.cells #[.slice ma A.length mc] 27 (0, 0)) :: roS ma (A.flatMap pairC) :: pt b1 (.cells #[.bool false] 4 (0, 0)) :: pt b0 (.cells #[.int .u8 stop] 5 (0, 0)) :: [old h]) h11 := H11
    exact (marks_nil (H12.ordT 7 [0, 2, 3, 4, 6, 5])).ordT 7 [1, 2, 3, 4, 5, 6, 0]
  refine ⟨fun st hh => ∃ (b3 turn : Nat), st.1 = ⟨b3, 0, none⟩ ∧ turn ≤ 2 ∧ sat (pt b3 (.cells #[.int .i64 (turn : Int)] 3 (0, 0)) :: seqP q c0 c1 A :: stT b2 b0 b1 stop A ma mc st.2 h) hh,
    fun st hh => ((2 : Int) - rdI hh st.1.block).toNat, ⟨b3, 0, rfl, by omega, J⟩, ?_⟩
  rintro ⟨st, ds⟩ h12 ⟨b3, turn, est, hturn, K⟩
  simp only at est
  subst est
  simp only [] at K ⊢
  have eK := rdI_of K
  refine LdV (v := .int .i64 (turn : Int)) K.get rfl ?_
  rw [DI_int]
  by_cases hlt : turn < 2
  case pos =>
    rw [decide_eq_true (show ((turn : Int) < 2) by omega), cond_true]
    refine Al_sat K fun b4 h13 K1 => StCC K1 (show (0 : Nat) < 1 by decide) rfl fun h14 K2 => ?_
    have K3 : sat (seqP q c0 c1 A :: pt b4 (.cells #[.int .i64 ((0 : Nat) : Int)] 3 (0, 0)) :: pt b3 (.cells #[.int .i64 (turn : Int)] 3 (0, 0)) :: stT b2 b0 b1 stop A ma mc ds h) h14 := by
      have K4 : sat (pt b4 (.cells #[.int .i64 ((0 : Nat) : Int)] 3 (0, 0)) :: pt b3 (.cells #[.int .i64 (turn : Int)] 3 (0, 0)) :: seqP q c0 c1 A :: stT b2 b0 b1 stop A ma mc ds h) h14 := K2
      exact K4.mv 2
    have hme : ∀ {hh : Heap} {b5 : Nat}, rdI hh b5 = ((turn + 1 : Nat) : Int) → ((2 : Int) - rdI hh b5).toNat < ((2 : Int) - rdI h12 b3).toNat := fun {hh b5} e => by rw [e, eK]; omega
    have wt : IntKind.wrap .i64 ((turn : Int) + 1) = ((turn + 1 : Nat) : Int) := wrap64_succ (by omega)
    refine range_tab (fun i => pt b4 (.cells #[.int .i64 (i : Int)] 3 (0, 0)) :: pt b3 (.cells #[.int .i64 (turn : Int)] 3 (0, 0)) :: stT b2 b0 b1 stop A ma mc ds h)
      (fun c => pur (c = .exit 2 ∧ turn = 0) :: pt b3 (.cells #[.int .i64 (turn : Int)] 3 (0, 0)) :: seqP q c0 c1 A :: stT b2 b0 b1 stop A ma mc ds h) K3 ?_ ?_ ?_
    · intro i y L rec h15 Q hy HR go stopf
      refine ⟨y.1, y.2, rfl, HR.get, ?_⟩
      have HB := HR.set (rec .busy none)
      -- L, markD, seqP, b4, b3, b2, roS, b0, b1, marks, old
      have hi := (List.getElem?_eq_some_iff.1 hy).1
      refine LdV (v := .int .i64 (i : Int)) (HB.mv 3).get rfl ?_
      rw [DI_int]
      refine LdV (v := .slice ma A.length mc) (HB.mv 5).get rfl ?_
      rw [DSl_slice, decide_eq_false (by omega), cond_false]
      refine LdV (v := .slice ma A.length mc) (HB.mv 5).get rfl ?_
      rw [DSl_slice]
      refine LdV (v := .int .i64 (i : Int)) (HB.mv 3).get rfl ?_
      rw [DI_int]
      refine IdxC (f := pairC) (fun _ => rfl) (by decide) (roS_read (HB.mv 6)) rfl hy fun _ _ hc => ⟨_, hc 0 _ rfl, _, hc 1 _ rfl, y.1, y.2, rfl, ?_⟩
      rw [strEq_dec, strEq_dec, decide_eq_true rfl, decide_eq_true rfl, Bool.and_true, Bool.and_true, Bool.not_true, cond_false]
      refine LdV (v := .int .i64 (i : Int)) (HB.mv 3).get rfl ?_
      rw [DI_int, wrap64_succ (by omega)]
      refine StCC (b := b4) (i := 0) (HB.mv 3) (show (0 : Nat) < 1 by decide) rfl fun h16 H7 => ?_
      have H7' : sat (pt b4 (.cells #[.int .i64 ((i + 1 : Nat) : Int)] 3 (0, 0)) :: pt L (rec .busy none) :: markD h14.size :: seqP q c0 c1 A :: pt b3 (.cells #[.int .i64 (turn : Int)] 3 (0, 0)) :: stT b2 b0 b1 stop A ma mc ds h) h16 := H7
      have HG := H7'.ordT 5 [1, 2, 3, 0, 4]
      refine LdV (v := .int .i64 (turn : Int)) (H7'.mv 4).get rfl ?_
      rw [DI_int]
      by_cases t0 : turn = 0
      · rw [show (((turn : Nat) : Int) == 0) = true from by simpa using t0, cond_true]
        refine LdV (v := .int .i64 ((i + 1 : Nat) : Int)) H7'.get rfl ?_
        rw [DI_int]
        -- b4, L, markD, seqP, b3, b2, roS, b0
        refine LdV (v := .int .u8 stop) (H7'.mv 7).get rfl ?_
        rw [DI_int]
        cases decide (((i + 1 : Nat) : Int) > IntKind.wrap .i64 stop) with
        | true =>
          rw [cond_true]
          refine stopf (.exit 2) _ ?_
          have HX := (sat_pur.2 ⟨(⟨rfl, t0⟩ : Code.exit 2 = Code.exit 2 ∧ turn = 0), H7'⟩)
          -- pur, b4, L, markD, seqP, b3, ..
          exact HX.ordT 6 [2, 3, 0, 5, 4]
        | false =>
          rw [cond_false]
          exact go _ HG
      · rw [show (((turn : Nat) : Int) == 0) = false from by simpa using t0, cond_false]
        exact go _ HG
    · intro h15 K5
      -- markD, seqP, b4, b3, b2, roS, b0, b1, marks, old
      refine ⟨.inl rfl, fun _ => ?_, (fun e => by cases e), (fun e => by cases e)⟩
      refine LdV (v := .int .i64 (turn : Int)) (K5.mv 3).get rfl ?_
      rw [DI_int]
      have K6 : sat (pt b3 (.cells #[.int .i64 (turn : Int)] 3 (0, 0)) :: seqP q c0 c1 A :: stT b2 b0 b1 stop A ma mc (h14.size :: ds) h) h15 :=
        (marks_cons (K5.ordT 9 [0, 8, 3, 1, 4, 5, 6, 7])).ordT 7 [1, 2, 3, 4, 5, 6, 0]
      by_cases t1 : turn = 1
      · rw [show (((turn : Nat) : Int) == 1) = true from by simp [t1], cond_true]
        refine LdV (v := .int .i64 (A.length : Int)) (K5.mv 2).get rfl ?_
        rw [DI_int]
        refine LdV (v := .slice ma A.length mc) (K5.mv 4).get rfl ?_
        rw [DSl_slice, show (((A.length : Nat) : Int) != (A.length : Int)) = false from by simp, cond_false]
        refine LdV (v := .int .i64 (turn : Int)) (K6.mv 0).get rfl ?_
        rw [DI_int]
        refine Al_sat K6 fun b5 h31 L1 => StCC L1 (show (0 : Nat) < 1 by decide) rfl fun h32 L2 => ?_
        refine LdV (v := .int .i64 (turn : Int)) L2.get rfl ?_
        rw [DI_int, wt]
        refine StCC (b := b5) (i := 0) L2 (show (0 : Nat) < 1 by decide) rfl fun h33 L3 => ?_
        exact ⟨⟨b5, turn + 1, rfl, by omega, L3.ordT 2 [0]⟩, hme (rdI_of L3)⟩
      · rw [show (((turn : Nat) : Int) == 1) = false from by simp only [beq_eq_false_iff_ne, ne_eq]; omega, cond_false]
        refine LdV (v := .int .i64 (turn : Int)) (K6.mv 0).get rfl ?_
        rw [DI_int]
        refine Al_sat K6 fun b5 h31 L1 => StCC L1 (show (0 : Nat) < 1 by decide) rfl fun h32 L2 => ?_
        refine LdV (v := .int .i64 (turn : Int)) L2.get rfl ?_
        rw [DI_int, wt]
        refine StCC (b := b5) (i := 0) L2 (show (0 : Nat) < 1 by decide) rfl fun h33 L3 => ?_
        exact ⟨⟨b5, turn + 1, rfl, by omega, L3.ordT 2 [0]⟩, hme (rdI_of L3)⟩
    · intro c h15 K5
      -- markD, pur, b3, seqP, b2, roS, b0, b1, marks, old
      obtain ⟨⟨rfl, t0⟩, _⟩ := sat_pur.1 (K5.mv 1)
      have K6 : sat (pt b3 (.cells #[.int .i64 (turn : Int)] 3 (0, 0)) :: seqP q c0 c1 A :: stT b2 b0 b1 stop A ma mc (h14.size :: ds) h) h15 :=
        (marks_cons (K5.ordT 9 [0, 8, 2, 3, 4, 5, 6, 7])).ordT 7 [1, 2, 3, 4, 5, 6, 0]
      refine ⟨.inr (.inr rfl), (fun e => by cases e), (fun e => by cases e), fun _ => ?_⟩
      refine LdV (v := .int .i64 (turn : Int)) K6.get rfl ?_
      rw [DI_int, show (((turn : Nat) : Int) == 1) = false from by simp [t0], cond_false]
      refine LdV (v := .int .i64 (turn : Int)) (K6.mv 0).get rfl ?_
      rw [DI_int]
      refine Al_sat K6 fun b5 h31 L1 => StCC L1 (show (0 : Nat) < 1 by decide) rfl fun h32 L2 => ?_
      refine LdV (v := .int .i64 (turn : Int)) L2.get rfl ?_
      rw [DI_int, wt]
      refine StCC (b := b5) (i := 0) L2 (show (0 : Nat) < 1 by decide) rfl fun h33 L3 => ?_
      exact ⟨⟨b5, turn + 1, rfl, by omega, L3.ordT 2 [0]⟩, hme (rdI_of L3)⟩
  case neg =>
  rw [decide_eq_false (by omega), cond_false]
  refine F13_nil.mono ?_
  rintro v h13 ⟨rfl, rfl⟩
  refine ⟨rfl, ?_⟩
  refine F11_nil.mono ?_
  rintro v h14 ⟨rfl, rfl⟩
  refine ⟨_, _, rfl, ?_⟩
  refine (F18_Z (tabZ_none K)).mono ?_
  rintro v h15 ⟨bc, rfl, M⟩
  show DP (.pointer (some ⟨bc, 0, none⟩)) _
  rw [DP_pointer]
  refine (F13_spec (x := (⟨#[98]⟩ : ByteArray)) M).mono ?_
  rintro v h16 ⟨rfl, M1⟩
  refine ⟨rfl, ?_⟩
  rw [show (!(get ([] : T VT) (⟨#[97]⟩ : ByteArray)).isSome) = true from rfl, cond_true]
  refine F22_nil.mono ?_
  rintro v h17 ⟨rfl, rfl⟩
  rw [DI_int, show ((0 : Int) == 0) = true from rfl, cond_true]
  refine F15_nil.mono ?_
  rintro v h18 ⟨rfl, rfl⟩
  rw [DB_bool, Bool.not_false, cond_true]
  -- tabP bc, tabZ none, b3, seqP, b2, roS, b0, b1, marks, old
  refine (F19_spec (p := none) (l := []) (by decide) (fun h' H' => roS_read (roS_none H')) rfl (M1.mv 1)).mono ?_
  rintro v h19 ⟨rfl, M2⟩
  rw [DB_bool, cond_true]
  -- tabZ none, tabP bc, b3, ..
  refine Al_sat M2 fun b9 h20 M3 => ?_
  refine (F19_spec (l := [((⟨#[97]⟩ : ByteArray), (⟨#[98]⟩ : ByteArray))]) (by decide) (fun h' H' => by exact RdCf H' rfl) rfl (tabZ_some (M3.mv 2))).mono ?_
  rintro v h21 ⟨rfl, M4⟩
  rw [DB_bool, cond_true]
  -- tabZ bc, b9, tabZ none, b3, seqP, b2, roS, b0, b1, marks, old
  refine (F23_spec (a := []) (b := []) (by decide) (by decide) (tabZ_none (tabZ_none M4))).mono ?_
  rintro v h22 ⟨sa, n, k, d, rfl, hn, D, M5⟩
  rw [DSl_slice]
  have ed := diff_self D
  subst ed
  have hn0 : n = 0 := hn.symm
  subst hn0
  rw [show (((0 : Nat) : Int) == 0) = true from rfl]
  -- own, tabZ, tabZ, tabZ bc, b9, tabZ none, b3, seqP, b2, roS, b0, b1, marks, old
  refine StCC (b := b1) (i := 0) (M5.mv 11) (show (0 : Nat) < 1 by decide) rfl fun h23 M6 => ?_
  refine marks_leave (M6.mv 12) fun h24 M7 => ?_
  refine LdV (v := .bool true) M7.get rfl ?_
  rw [DB_bool]
  exact good_of (M7.mv 12)

end Go.Proofs.Ytfpdejkcjijmmaa.TS
