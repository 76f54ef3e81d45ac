/- PlaceWhole: the walk. -/
import Derived.Test.YticjjdhaikbdaaaPw1
namespace Go.Proofs.Yticjjdhaikbdaaa
open Go Go.RowKit Go.ChangeShapes Go.WideShapes Go.ChangeAt
set_option linter.unusedVariables false
set_option linter.unusedSimpArgs false

theorem PlaceWhole_law (e n : ByteArray) (pa : Option Addr) (pl pc m : Nat) (ps : List Int) (h : Heap) (hez : e.size ≤ 140737488355328) (hnz : n.size ≤ 140737488355328) (hr : RdC h pa (ps.map iv)) (hl : ps.length = pl) (hc : pl ≤ pc) :
    CallsH Try.prog 11 [.string e, .string n, .int .u8 (m : Int), .slice pa pl pc] h (Good h) := by
  apply F11_ok
  unfold F11
  refine (F38_spec (sat_old h)).mono ?_
  rintro v h0 ⟨rfl, H0⟩
  rw [DB_bool, Bool.not_true, cond_false]
  have hm1 : 140737488355328 ≤ maxLen := by decide
  rw [← Int.natCast_add, wrap64_nat (by omega)]
  by_cases hbig : e.size + n.size > 4000
  · rw [decide_eq_true (show (((e.size + n.size : Nat) : Int) > 4000) by omega), cond_true]
    exact good_of H0
  rw [decide_eq_false (show ¬ (((e.size + n.size : Nat) : Int) > 4000) by omega), cond_false]
  by_cases hpl : pl > 100
  · rw [decide_eq_true (show ((pl : Int) > 100) by omega), cond_true]
    exact good_of H0
  rw [decide_eq_false (show ¬ ((pl : Int) > 100) by omega), cond_false]
  have la := sb_length e
  have lb := sb_length n
  refine (F15_spec (room := 1048576) H0 (by omega)).mono ?_
  rintro v h1 ⟨b, rfl, H1⟩
  refine ⟨some ⟨b, 0, none⟩, 0, rfl, ?_⟩
  refine (c16 (A' := ⟨1048576, 1, none, false, [], [⟨dN, [], [], []⟩]⟩) (e := 0) rfl (new_wf (by omega)) (by decide) (by decide) H1).mono ?_
  rintro v h2 ⟨rfl, W2, H2⟩
  rw [DI_int, show (((0 : Nat) : Int) != 0) = false from rfl, cond_false]
  refine cText H2 (by omega) fun ea ec h3 H3 => ?_
  rw [DSl_slice]
  refine (F43_spec (bs := sb e) W2 (by decide) (dir := dN) (name := aN) (by decide) (by decide) (fun h' hh => ownS_read hh) (sb_B8 _) (by omega) (by omega) (H3.mv 1)).mono ?_
  rintro v h4 ⟨rfl, W4, _, H4⟩
  have eput : AF.FS.put ⟨1048576, 1, none, false, [], [⟨dN, [], [], []⟩]⟩ dN aN (sb e) = (AF.S6 (Frame.packN (sb e)) none, 0) := by
    rw [AF.put_one 1048576 1 (sb e) (by omega) (by omega)]
    unfold AF.S6
    rw [Frame.packN_length]
  rw [eput] at W4 H4 ⊢
  rw [DI_int, show (((0 : Nat) : Int) != 0) = false from rfl, cond_false]
  refine ⟨by omega, ?_⟩
  rw [show (8 : Int) = ((8 : Nat) : Int) from rfl, fuse_mod (by omega) (by omega)]
  simp only [tmod_nat]
  have hmq := Nat.mod_lt m (show 0 < 8 by omega)
  generalize m % 8 = k at hmq
  refine (c21 (set_fuse (m := k)) W4 (by omega) (H4.mv 1).drop).mono ?_
  rintro v h5 ⟨rfl, W5, H5⟩
  rw [DI_int]
  refine cText H5 (by omega) fun na nc h6 H6 => ?_
  rw [DSl_slice]
  obtain ⟨x, x2, hx⟩ := AF.put_second (e := sb e) (n := sb n) (by omega) hmq
  refine (F43_spec (A := AF.S6 (Frame.packN (sb e)) (some k)) (bs := sb n) W5 (Nat.le_of_ble_eq_true rfl) (dir := dN) (name := aN) (by decide) (by decide) (fun h' hh => ownS_read hh) (sb_B8 _) (by omega) (by omega) (H6.mv 1)).mono ?_
  rintro v h7 ⟨rfl, W7, hs7, H7⟩
  rw [x2] at W7 hs7 H7 ⊢
  rw [DI_int]
  have hs7' : (AF.W11 (Frame.packN (sb e)) (Frame.packN (sb n)) k).steps ≤ 12 := hs7
  refine (F24_spec W7 (pks_old hr hl hc) (by show (AF.W11 (Frame.packN (sb e)) (Frame.packN (sb n)) k).steps < 1099511627776; omega) (H7.mv 1).drop).mono ?_
  rintro v h8 ⟨rfl, H8⟩
  rw [DI_int]
  obtain ⟨y, B, hg, hy, hy5, hp⟩ := AF.whole (sb_B8 e) (sb_B8 n) (by omega) hmq W7 ps
  have W8 := W7.crash ps
  have hs8 : ((AF.W11 (Frame.packN (sb e)) (Frame.packN (sb n)) k).crash ps).steps ≤ 12 := hs7
  refine (F40_spec W8 (dir := dN) (name := aN) (by decide) (by decide) H8).mono ?_
  rintro v h9 (⟨bs, a, c, hg', hb8, _, rfl, H9⟩ | ⟨e', hg', _⟩)
  · rw [hg] at hg'
    cases hg'
    refine ⟨a, y.length, c, 0, rfl, ?_⟩
    rw [show ((0 : Int) != 0) = false from rfl, cond_false]
    have hB := bytesIn_of (ownS_read H9) rfl hb8
    have hdone : ((((x : Nat) : Int) == 0) == decide (((k : Nat) : Int) ≥ 5)) = true := by
      by_cases h5 : 5 ≤ k
      · rw [hx.2 h5, decide_eq_true (by omega)]
        rfl
      · have : x ≠ 0 := fun e => h5 (hx.1 e)
        rw [err_beq this, decide_eq_false (by omega)]
        rfl
    have tail : CallsH Try.prog 42 [.pointer (some ⟨b, 0, none⟩), .string ⟨#[100]⟩] h9 fun r10 h_10 =>
                      ∃ (x11a : Option Addr), ∃ (x11l : Nat), ∃ (x11c : Nat), ∃ (x12 : Int), r10 = .tuple #[.slice x11a x11l x11c, .int .i64 x12] ∧
                      (bif (x12 : Int) == 0 then
                        (bif ((x11l : Int) : Int) == 1 then
                          IdxA x11a x11l 0 1 fun a0 =>
                          Ld h_10 a0 fun v0 => DS v0 fun x13 =>
                          (bif strEq x13 ⟨#[97]⟩ then
                            (((8 : Nat) : Int) : Int) ≠ 0 ∧
                            Good h (.bool ((((x : Nat) : Int) == 0) == (decide (((k : Nat) : Int) ≥ 5)))) h_10
                          else
                            Good h (.bool false) h_10)
                        else
                          Good h (.bool false) h_10)
                      else
                        Good h (.bool false) h_10) := by
      refine (F42_spec W8 (by show ((AF.W11 (Frame.packN (sb e)) (Frame.packN (sb n)) k).crash ps).steps + 20000 < 1099511627776; omega) (dir := dN) (by decide) (H9.mv 1)).mono ?_
      rintro v h10 ⟨_, _, hcase⟩
      rw [hp] at hcase
      rcases hcase with ⟨ks, ka, kc, hk, _, _, rfl, H10⟩ | ⟨e', hk, _⟩
      · cases hk
        refine ⟨ka, 1, kc, 0, rfl, ?_⟩
        rw [show ((0 : Int) == 0) = true from rfl, cond_true, show ((((1 : Nat) : Int)) == 1) = true from rfl, cond_true]
        refine IdxA_nat (i := 0) (v := .string aN) (ownS_read H10) rfl rfl fun ba hba hc2 => ⟨_, hc2, ?_⟩
        show DS (.string aN) _
        rw [DS_string, show strEq aN ⟨#[97]⟩ = true from by rw [strEq_eq]; simp, cond_true, hdone]
        exact ⟨by omega, good_of (H10.ord [3])⟩
      · cases hk
    refine ⟨ofN y, hB, ?_⟩
    cases hq : strEq (ofN y) e with
    | false =>
      rw [Bool.not_false, cond_true]
      refine ⟨ofN y, hB, ?_⟩
      have h2 : y = sb n := by
        rcases hy with h1 | h1
        · rw [strEq_of hb8, h1] at hq
          simp at hq
        · exact h1
      have hqn : strEq (ofN y) n = true := by rw [strEq_of hb8, h2]; simp
      rw [hqn, Bool.not_true, cond_false]
      by_cases hx0 : x = 0
      · rw [hx0, show (((0 : Nat) : Int) == 0) = true from rfl, cond_true]
        refine ⟨ofN y, hB, ?_⟩
        rw [hqn, Bool.not_true, cond_false]
        rw [hx0] at tail
        exact tail
      · rw [err_beq hx0, cond_false]
        rw [err_beq hx0] at tail
        exact tail
    | true =>
      rw [Bool.not_true, cond_false]
      by_cases hx0 : x = 0
      · rw [hx0, show (((0 : Nat) : Int) == 0) = true from rfl, cond_true]
        refine ⟨ofN y, hB, ?_⟩
        have hqn : strEq (ofN y) n = true := by rw [strEq_of hb8, hy5 (hx.1 hx0)]; simp
        rw [hqn, Bool.not_true, cond_false]
        rw [hx0] at tail
        exact tail
      · rw [err_beq hx0, cond_false]
        rw [err_beq hx0] at tail
        exact tail
  · rw [hg] at hg'
    cases hg'

/-- Whole numbers in a slice that came in. -/
theorem ints_open {H : Type} {enc : TypeId × Value → H} {P : Program} {w : World} {base : Nat} {spare : Nat → Bool} {held : Bool} {r : Reach} {b0 : Nat} {t e : TypeId} {v : Value} {d : DataW H} {p : List MemPlace}
    (ht : P.underlying t = some (.slice e)) (he : P.underlying e = some (.int .i64)) (hc : P.cellsOf e = 1) (hv : Value.okWide P w r b0 t v) (h : DataW.Trod enc P w base spare held t v d p) :
    ∃ (a : Option Addr) (l c : Nat) (ps : List Int), v = .slice a l c ∧ RdC w.heap a (ps.map iv) ∧ ps.length = l ∧ l ≤ c ∧ c ≤ maxLen := by
  obtain ⟨a, l, c, rfl⟩ := okWide_slice ht hv
  obtain ⟨fuel, hf⟩ := h
  exact ints_read ht he hc hf

end Go.Proofs.Yticjjdhaikbdaaa
