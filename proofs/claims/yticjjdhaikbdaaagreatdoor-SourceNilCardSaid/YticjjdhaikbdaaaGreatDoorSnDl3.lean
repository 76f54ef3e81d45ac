/- A source of two parts, the chapter's example (seat D). -/
import Derived.Test.YticjjdhaikbdaaaGreatDoorSnDl2
import Derived.Test.YticjjdhaikbdaaaGreatDoorSnItoaL
import Derived.Test.YticjjdhaikbdaaaGreatDoorSnSg8
namespace Go.Proofs.YticjjdhaikbdaaaGreatDoor
open Go Go.RowKit
open Dl (LP isOpen cnt pass Ref Fits)
set_option linter.unusedVariables false
set_option linter.unusedSimpArgs false
set_option maxRecDepth 8000

/-- strconv.Itoa of a small number, over heaps. -/
theorem F36_spec {i : Nat} {h : Heap} (hi : i < 100) : CallsH Tryz.prog 36 [.int .i64 (i : Int)] h fun v h' => v = .string ⟨(Lib.decDigits i).toArray⟩ ∧ h' = h := by
  refine ⟨by kernel_rfl, fun w hw => callsIn_wide.2 ((Tryz.strconv_Itoa_small i hi w).mono ?_)⟩
  rintro e w' ⟨rfl, rfl⟩
  exact ⟨_, rfl, ⟨rfl, hw⟩, ⟨rfl, rfl, rfl⟩⟩
abbrev p0 : ByteArray := ⟨#[112, 48]⟩
abbrev p1 : ByteArray := ⟨#[112, 49]⟩
theorem dig0 : (⟨#[112]⟩ : ByteArray) ++ ⟨(Lib.decDigits 0).toArray⟩ = p0 := by
  rw [Lib.decDigits]
  decide
theorem dig1 : (⟨#[112]⟩ : ByteArray) ++ ⟨(Lib.decDigits 1).toArray⟩ = p1 := by
  rw [Lib.decDigits]
  decide
abbrev fs0 : AF.FS := ⟨1000, 0, none, false, [], []⟩
abbrev fs1 : AF.FS := ⟨1000, 1, none, false, [], [⟨p0, [], [], []⟩]⟩
abbrev fs2 : AF.FS := ⟨1000, 2, none, false, [], [⟨p0, [], [], []⟩, ⟨p1, [], [], []⟩]⟩
theorem prep0 : AF.FS.prep fs0 p0 = (fs1, .ok []) := by kernel_rfl
theorem prep1 : AF.FS.prep fs1 p1 = (fs2, .ok []) := by kernel_rfl
abbrev lg (d : ByteArray) : AF.Log := ⟨d, 100, [], 0, 0⟩
/-- A source of two parts. -/
abbrev src (s l0 l1 : Nat) : HProp := pt s (.cells #[ptrV l0, ptrV l1, .pointer none, .pointer none, .int .i64 2] 93 (0, 0))
theorem m01 : ((2 : Int) - IntKind.wrap .i64 (0 + 1)).toNat < ((2 : Int) - 0).toNat := by decide
theorem m12 : ((2 : Int) - IntKind.wrap .i64 (1 + 1)).toNat < ((2 : Int) - 1).toNat := by decide
section
variable {h : Heap} {F : List HProp} {s l0 l1 b : Nat}
theorem F13_two (H : sat (fsP b fs0 :: F) h) : CallsH Tryz.prog 13 [ptrV b, .int .i64 2, .int .i64 100] h fun v h' => ∃ s l0 l1, v = .tuple #[ptrV s, .int .i64 0] ∧ fs2.WF ∧ sat (src s l0 l1 :: logP l0 b (lg p0) :: logP l1 b (lg p1) :: fsP b fs2 :: F) h' := by
  apply F13_ok
  unfold F13
  rw [show decide ((2 : Int) < 1) = false from rfl, cond_false, show decide ((2 : Int) > 4) = false from rfl, cond_false]
  refine Al_sat H fun s h1 H1 => ?_
  have W0 : fs0.WF := new_wf (by decide)
  refine ⟨fun st hh => (st = 0 ∧ sat (pt s (.cells #[.pointer none, .pointer none, .pointer none, .pointer none, .int .i64 2] 93 (0, 0)) :: fsP b fs0 :: F) hh) ∨
    (st = 1 ∧ fs1.WF ∧ ∃ l0, sat (pt s (.cells #[ptrV l0, .pointer none, .pointer none, .pointer none, .int .i64 2] 93 (0, 0)) :: logP l0 b (lg p0) :: fsP b fs1 :: F) hh) ∨
    (st = 2 ∧ fs2.WF ∧ ∃ l0 l1, sat (src s l0 l1 :: logP l0 b (lg p0) :: logP l1 b (lg p1) :: fsP b fs2 :: F) hh), fun st _ => ((2 : Int) - st).toNat, .inl ⟨rfl, H1⟩, ?_⟩
  rintro st h2 (⟨rfl, H2⟩ | ⟨rfl, W1, l0, H2⟩ | ⟨rfl, W2, l0, l1, H2⟩)
  · rw [show decide ((0 : Int) < 2) = true from rfl, cond_true]
    refine (F36_spec (i := 0) (by decide)).mono ?_
    rintro v h3 ⟨rfl, rfl⟩
    rw [DS_string, dig0]
    refine ⟨by rw [show (⟨(Lib.decDigits 0).toArray⟩ : ByteArray) = ⟨#[48]⟩ from by rw [Lib.decDigits]; rfl]; decide, ?_⟩
    refine (F35_fresh (size := 100) (dir := p0) (by decide) (by decide) W0 (by decide) (by decide) prep0 (H2.mv 1)).mono ?_
    rintro v h4 ⟨lb, rfl, W1, _, H4⟩
    refine ⟨some ⟨lb, 0, none⟩, 0, rfl, ?_⟩
    rw [show ((0 : Int) != 0) = false from rfl, cond_false]
    refine ⟨by decide, by decide, ?_⟩
    -- logP, fsP, s, F
    refine StCC (b := s) (i := 0) (H4.mv 2) (show (0 : Nat) < 5 by decide) rfl fun h5 H5 => ?_
    exact ⟨.inr (.inl ⟨rfl, W1, lb, H5⟩), m01⟩
  · rw [show decide ((1 : Int) < 2) = true from rfl, cond_true]
    refine (F36_spec (i := 1) (by decide)).mono ?_
    rintro v h3 ⟨rfl, rfl⟩
    rw [DS_string, dig1]
    refine ⟨by rw [show (⟨(Lib.decDigits 1).toArray⟩ : ByteArray) = ⟨#[49]⟩ from by rw [Lib.decDigits]; rfl]; decide, ?_⟩
    refine (F35_fresh (size := 100) (dir := p1) (by decide) (by decide) W1 (by decide) (by decide) prep1 (H2.mv 2)).mono ?_
    rintro v h4 ⟨lb, rfl, W2, _, H4⟩
    refine ⟨some ⟨lb, 0, none⟩, 0, rfl, ?_⟩
    rw [show ((0 : Int) != 0) = false from rfl, cond_false]
    refine ⟨by decide, by decide, ?_⟩
    -- logP1, fsP, s, logP0, F
    refine StCC (b := s) (i := 1) (H4.mv 2) (show (1 : Nat) < 5 by decide) rfl fun h5 H5 => ?_
    exact ⟨.inr (.inr ⟨rfl, W2, l0, lb, H5.ordT 4 [0, 3, 1, 2]⟩), m12⟩
  · rw [show decide ((2 : Int) < 2) = false from rfl, cond_false]
    exact ⟨s, l0, l1, rfl, W2, H2⟩
theorem F37_one (H : sat (src s l0 l1 :: F) h) : CallsH Tryz.prog 37 [ptrV s, .int .i64 1] h fun v h' => v = .tuple #[ptrV l1, .int .i64 0] ∧ h' = h := by
  apply F37_ok
  unfold F37
  rw [show (some (⟨s, 0, none⟩ : Addr)).isNone = false from rfl, cond_false, show decide ((1 : Int) < 0) = false from rfl, cond_false]
  rw [NN'_some']
  refine LdC (v := .int .i64 2) H rfl ?_
  rw [DI_int, show decide ((1 : Int) ≥ 2) = false from rfl, cond_false, NN'_some']
  refine ⟨by decide, by decide, ?_⟩
  rw [addr_add0]
  refine LdC (i := 1) (v := ptrV l1) H rfl ?_
  show DP (.pointer (some ⟨l1, 0, none⟩)) _
  rw [DP_pointer]
  exact ⟨rfl, by trivial⟩
/-- How far each part is safe. -/
theorem F21_two {L0 L1 : AF.Log} (H : sat (src s l0 l1 :: logP l0 b L0 :: logP l1 b L1 :: F) h) : CallsH Tryz.prog 21 [ptrV s] h fun v h' => ∃ a, v = .slice a 2 2 ∧ sat (ownS 2 1 a 2 2 [iv (L0.dur : Int), iv (L1.dur : Int)] :: src s l0 l1 :: logP l0 b L0 :: logP l1 b L1 :: F) h' := by
  apply F21_ok
  unfold F21
  rw [show (some (⟨s, 0, none⟩ : Addr)).isNone = false from rfl, cond_false, NN'_some']
  refine LdC (v := .int .i64 2) H rfl ?_
  rw [DI_int]
  refine make_sat (e := 2) (n := 2) (by kernel_rfl) (by kernel_rfl) (by decide) H fun a h1 H1 => ?_
  rw [DSl_slice]
  refine ⟨fun st hh => (st = 0 ∧ sat (ownS 2 1 a 2 2 [iv 0, iv 0] :: src s l0 l1 :: logP l0 b L0 :: logP l1 b L1 :: F) hh) ∨
    (st = 1 ∧ sat (ownS 2 1 a 2 2 [iv (L0.dur : Int), iv 0] :: src s l0 l1 :: logP l0 b L0 :: logP l1 b L1 :: F) hh) ∨
    (st = 2 ∧ sat (ownS 2 1 a 2 2 [iv (L0.dur : Int), iv (L1.dur : Int)] :: src s l0 l1 :: logP l0 b L0 :: logP l1 b L1 :: F) hh), fun st _ => ((2 : Int) - st).toNat, .inl ⟨rfl, H1⟩, ?_⟩
  rintro st h2 (⟨rfl, H2⟩ | ⟨rfl, H2⟩ | ⟨rfl, H2⟩)
  · rw [show decide ((0 : Int) < ((2 : Nat) : Int)) = true from rfl, cond_true, NN'_some']
    refine ⟨by decide, by decide, ?_⟩
    rw [addr_add0]
    refine LdC (i := 0) (v := ptrV l0) (H2.mv 1) rfl ?_
    show DP (.pointer (some ⟨l0, 0, none⟩)) _
    rw [DP_pointer]
    refine (F43_spec (H2.mv 2)).mono ?_
    rintro v h3 ⟨rfl, rfl⟩
    rw [DI_int]
    refine IdxA_nat (i := 0) (v := iv 0) (ownS_read H2) rfl rfl fun b2 hb2 _ => ?_
    subst hb2
    rw [addr_add0]
    refine ownS_set H2 (by decide) fun h4 H4 => ⟨.inr (.inl ⟨rfl, H4⟩), m01⟩
  · rw [show decide ((1 : Int) < ((2 : Nat) : Int)) = true from rfl, cond_true, NN'_some']
    refine ⟨by decide, by decide, ?_⟩
    rw [addr_add0]
    refine LdC (i := 1) (v := ptrV l1) (H2.mv 1) rfl ?_
    show DP (.pointer (some ⟨l1, 0, none⟩)) _
    rw [DP_pointer]
    refine (F43_spec (H2.mv 3)).mono ?_
    rintro v h3 ⟨rfl, rfl⟩
    rw [DI_int]
    refine IdxA_nat (i := 1) (v := iv 0) (ownS_read H2) rfl rfl fun b2 hb2 _ => ?_
    subst hb2
    rw [addr_add0]
    refine ownS_set H2 (Nat.lt_succ_self 1) fun h4 H4 => ⟨.inr (.inr ⟨rfl, H4⟩), m12⟩
  · rw [show decide ((2 : Int) < ((2 : Nat) : Int)) = false from rfl, cond_false]
    exact ⟨a, rfl, H2⟩
/-- The same ranges. -/
abbrev rgC (p : Int × Int) : List Value := [iv p.1, iv p.2]
theorem F28_same {rs : List (Int × Int)} {a1 a2 : Option Addr} {n c1 c2 : Nat} (h1 : RdC h a1 (rs.flatMap rgC)) (h2 : RdC h a2 (rs.flatMap rgC)) (hn : rs.length = n) (hm : n < 1099511627776) :
    CallsH Tryz.prog 28 [.slice a1 n c1, .slice a2 n c2] h fun v h' => v = .bool true ∧ h' = h := by
  apply F28_ok
  unfold F28
  rw [show (((n : Nat) : Int) != (n : Int)) = false from by simp, cond_false]
  refine ⟨fun st hh => hh = h ∧ ∃ i : Nat, st = (i : Int) ∧ i ≤ n, fun st _ => ((n : Int) - st).toNat, ⟨rfl, 0, rfl, Nat.zero_le _⟩, ?_⟩
  rintro st h3 ⟨rfl, i, rfl, hi⟩
  by_cases hlt : i < n
  · rw [decide_eq_true (show ((i : Int) < (n : Int)) by omega), cond_true]
    obtain ⟨x, hx⟩ : ∃ x, rs[i]? = some x := ⟨_, List.getElem?_eq_getElem (by omega)⟩
    refine IdxC (f := rgC) (fun _ => rfl) (by decide) h1 hn hx fun _ _ hc => ⟨_, hc 0 _ rfl, _, hc 1 _ rfl, x.1, x.2, rfl, ?_⟩
    refine IdxC (f := rgC) (fun _ => rfl) (by decide) h2 hn hx fun _ _ hc => ⟨_, hc 0 _ rfl, _, hc 1 _ rfl, x.1, x.2, rfl, ?_⟩
    rw [show (!(((x.1 : Int) == x.1) && (((x.2 : Int) == x.2) && true))) = false from by simp, cond_false, wrap64_succ (by omega)]
    exact ⟨⟨by trivial, i + 1, rfl, by omega⟩, by show ((n : Int) - ((i + 1 : Nat) : Int)).toNat < ((n : Int) - (i : Int)).toNat; omega⟩
  · rw [decide_eq_false (by omega), cond_false]
    exact ⟨rfl, by trivial⟩
end

end Go.Proofs.YticjjdhaikbdaaaGreatDoor
