/- Changes done; tables made; what a table has (seat T). -/
import Derived.Test.YtfpdejkcjijmmaaQsTb8
import Derived.Test.YtfpdejkcjijmmaaQsTbA
namespace Go.Proofs.Ytfpdejkcjijmmaa.TS
open Go Go.RowKit
open Tb (T get set del Up Has)
open AF (ltB strLt_irrefl strLt_trans strLt_total)
set_option linter.unusedVariables false
set_option linter.unusedSimpArgs false

abbrev Op := Int × ByteArray × ByteArray
abbrev opC (o : Op) : List Value := [.int .i64 o.1, .string o.2.1, .string o.2.2]
/-- A table behind Puts. -/
def mk (os : List Op) : T VT := os.foldl (fun l o => set o.2.1 o.2.2 l) []
theorem mk_up (os : List Op) : Up (mk os) := by
  have : ∀ (os : List Op) (l : T VT), Up l → Up (os.foldl (fun l o => set o.2.1 o.2.2 l) l) := by
    intro os
    induction os with
    | nil => exact fun l h => h
    | cons o os ih => exact fun l h => ih _ (h.set _ _)
  exact this os [] Up.nil
theorem mk_len (os : List Op) : (mk os).length ≤ os.length := by
  have : ∀ (os : List Op) (l : T VT), (os.foldl (fun l o => set o.2.1 o.2.2 l) l).length ≤ l.length + os.length := by
    intro os
    induction os with
    | nil => exact fun l => Nat.le_refl _
    | cons o os ih =>
      intro l
      rw [List.foldl_cons, List.length_cons]
      refine Nat.le_trans (ih _) ?_
      have := Tb.set_length o.2.1 o.2.2 l
      omega
  exact Nat.le_trans (this os []) (by simp)
theorem mk_take {os : List Op} {i : Nat} {o : Op} (h : os[i]? = some o) : mk (os.take (i + 1)) = set o.2.1 o.2.2 (mk (os.take i)) := by
  unfold mk
  rw [List.take_add_one, h, List.foldl_append]
  rfl
section
variable {h : Heap} {F : List HProp} {a : Option Addr} {n c : Nat}
theorem F9_spec {os : List Op} (hr : RdC h a (os.flatMap opC)) (hn : os.length = n) : CallsH Try.prog 9 [.slice a n c] h fun v h' => h' = h ∧ ∃ z, v = .bool z ∧ (z = false → n ≤ 300) := by
  apply F9_ok
  unfold F9
  by_cases h3 : n ≤ 300
  · rw [decide_eq_false (by omega), cond_false]
    refine ⟨fun st hh => hh = h ∧ ∃ i : Nat, st = (i : Int) ∧ i ≤ n, fun st _ => ((n : Int) - st).toNat, ⟨rfl, 0, rfl, Nat.zero_le _⟩, ?_⟩
    rintro st h1 ⟨rfl, i, rfl, hi⟩
    by_cases hlt : i < n
    · rw [decide_eq_true (show ((i : Int) < (n : Int)) by omega), cond_true]
      obtain ⟨x, hx⟩ : ∃ x, os[i]? = some x := ⟨_, List.getElem?_eq_getElem (by omega)⟩
      refine IdxC (f := opC) (fun _ => rfl) (by decide) hr hn hx fun _ _ hc => CStr (hc 1 _ rfl) ?_
      refine IdxC (f := opC) (fun _ => rfl) (by decide) hr hn hx fun _ _ hc => CStr (hc 2 _ rfl) ?_
      cases decide (IntKind.i64.wrap ((x.2.1.size : Int) + (x.2.2.size : Int)) > 1000) with
      | true => exact ⟨rfl, _, rfl, fun _ => h3⟩
      | false =>
        rw [cond_false, wrap64_succ (by omega)]
        exact ⟨⟨rfl, i + 1, rfl, by omega⟩, by show ((n : Int) - ((i + 1 : Nat) : Int)).toNat < ((n : Int) - (i : Int)).toNat; omega⟩
    · rw [decide_eq_false (by omega), cond_false]
      exact ⟨rfl, _, rfl, fun _ => h3⟩
  · rw [decide_eq_true (by omega), cond_true]
    exact ⟨rfl, _, rfl, fun e => by cases e⟩
theorem F20_spec {os : List Op} (hr : ∀ h', sat F h' → RdC h' a (os.flatMap opC)) (hn : os.length = n) (hm : n < 549755813888) (H : sat F h) :
    CallsH Try.prog 20 [.slice a n c] h fun v h' => ∃ b sa k, v = .tuple #[ptrV b, .slice sa (mk os).length k] ∧ sat (tabP b (mk os) :: roS sa ((mk os).flatMap pairC) :: F) h' := by
  apply F20_ok
  unfold F20
  refine (F10_none H).mono ?_
  rintro v h1 ⟨b, rfl, H1⟩
  show DP (.pointer (some ⟨b, 0, none⟩)) _
  rw [DP_pointer]
  refine ⟨fun st hh => ∃ (i : Nat) (oa : Option Addr) (oc : Nat), st = (⟨oa, (mk (os.take i)).length, oc⟩, (i : Int)) ∧ i ≤ n ∧ sat (tabP b (mk (os.take i)) :: roS oa ((mk (os.take i)).flatMap pairC) :: F) hh,
    fun st _ => ((n : Int) - st.2).toNat, ⟨0, none, 0, rfl, Nat.zero_le _, (roS_none H1).mv 1⟩, ?_⟩
  rintro st h2 ⟨i, oa, oc, rfl, hi, H2⟩
  simp only []
  by_cases hlt : i < n
  · rw [decide_eq_true (show ((i : Int) < (n : Int)) by omega), cond_true]
    obtain ⟨x, hx⟩ : ∃ x, os[i]? = some x := ⟨_, List.getElem?_eq_getElem (by omega)⟩
    have wi : IntKind.wrap .i64 ((i : Int) + 1) = ((i + 1 : Nat) : Int) := wrap64_succ (by omega)
    have hme : ((n : Int) - ((i + 1 : Nat) : Int)).toNat < ((n : Int) - (i : Int)).toNat := by omega
    have et := mk_take hx
    have hlen := mk_len (os.take i)
    rw [List.length_take] at hlen
    refine IdxC (f := opC) (fun _ => rfl) (by decide) (hr h2 H2.drop.drop) hn hx fun _ _ hc => CStr (hc 1 _ rfl) ?_
    refine IdxC (f := opC) (fun _ => rfl) (by decide) (hr h2 H2.drop.drop) hn hx fun _ _ hc => CStr (hc 2 _ rfl) ?_
    refine (F13_spec H2).mono ?_
    rintro v h3 ⟨rfl, H3⟩
    refine ⟨rfl, ?_⟩
    refine IdxC (f := opC) (fun _ => rfl) (by decide) (hr h3 H3.drop.drop) hn hx fun _ _ hc => CStr (hc 1 _ rfl) ?_
    refine IdxC (f := opC) (fun _ => rfl) (by decide) (hr h3 H3.drop.drop) hn hx fun _ _ hc => CStr (hc 2 _ rfl) ?_
    refine (F14_spec (l := mk (os.take i)) (fun h' H' => by have := H'.mv 1; exact roS_read this) rfl (by omega) (mk_up _) H3).mono ?_
    rintro v h4 ⟨a', n', c', rfl, hn', H4⟩
    rw [DSl_slice, wi]
    refine ⟨⟨i + 1, a', c', by rw [et, hn'], by omega, ?_⟩, hme⟩
    rw [et]
    -- roS', tabP, roS, F
    exact (roS_of H4).ordT 3 [1, 0]
  · rw [decide_eq_false (by omega), cond_false]
    rw [List.take_of_length_le (by omega)] at H2
    rw [List.take_of_length_le (by omega)]
    exact ⟨b, oa, oc, rfl, H2⟩
/-- A table has just its own pairs. -/
theorem F19_spec {p : Option Addr} {l : T VT} (hl : l.length < 1099511627776) (hr : ∀ h', sat F h' → RdC h' a (l.flatMap pairC)) (hn : l.length = n) (H : sat (tabZ p l :: F) h) :
    CallsH Try.prog 19 [.pointer p, .slice a n c] h fun v h' => v = .bool true ∧ sat (tabZ p l :: F) h' := by
  apply F19_ok
  unfold F19
  refine Al_sat H fun b0 h1 H1 => Al_sat H1 fun b1 h2 H2 => Al_sat H2 fun b2 h3 H3 => ?_
  refine StCC H3 (show (0 : Nat) < 1 by decide) rfl fun h4 H4 => ?_
  have H4' : sat (pt b2 (.cells #[.int .i64 0] 3 (0, 0)) :: pt b1 (.cells #[.bool false] 4 (0, 0)) :: pt b0 (.cells #[.slice a n c] 27 (0, 0)) :: tabZ p l :: F) h4 := H4
  refine (F21_Z hl (H4'.mv 3)).mono ?_
  rintro v h5 ⟨q, c0, c1, rfl, H5⟩
  refine ⟨_, rfl, ?_⟩
  -- seqP, tabZ, b2, b1, b0, F
  refine range_tab (fun i => tabZ p l :: pt b2 (.cells #[.int .i64 (i : Int)] 3 (0, 0)) :: pt b1 (.cells #[.bool false] 4 (0, 0)) :: pt b0 (.cells #[.slice a n c] 27 (0, 0)) :: F) (fun _ => [pur False]) H5 ?_ ?_ (fun j h2 H2 => (sat_pur.1 (H2.mv 1)).1.elim)
  · intro i x L rec h6 Q hx HR go _
    refine ⟨x.1, x.2, rfl, HR.get, ?_⟩
    have HB := HR.set (rec .busy none)
    -- L, markD, seqP, tabZ, b2, b1, b0, F
    have hi := (List.getElem?_eq_some_iff.1 hx).1
    refine LdV (v := .int .i64 (i : Int)) (HB.mv 4).get rfl ?_
    rw [DI_int]
    refine LdV (v := .slice a n c) (HB.mv 6).get rfl ?_
    rw [DSl_slice, decide_eq_false (by omega), cond_false]
    refine LdV (v := .slice a n c) (HB.mv 6).get rfl ?_
    rw [DSl_slice]
    refine LdV (v := .int .i64 (i : Int)) (HB.mv 4).get rfl ?_
    rw [DI_int]
    refine IdxC (f := pairC) (fun _ => rfl) (by decide) (hr _ HB.drop.drop.drop.drop.drop.drop.drop) hn hx fun _ _ hc => ⟨_, hc 0 _ rfl, _, hc 1 _ rfl, x.1, x.2, rfl, ?_⟩
    rw [strEq_dec, strEq_dec, decide_eq_true rfl, decide_eq_true rfl, Bool.and_true, Bool.and_true, Bool.not_true, cond_false]
    refine LdV (v := .int .i64 (i : Int)) (HB.mv 4).get rfl ?_
    rw [DI_int, wrap64_succ (by omega)]
    refine StCC (b := b2) (i := 0) (HB.mv 4) (show (0 : Nat) < 1 by decide) rfl fun h7 H7 => go h7 ?_
    have H7' : sat (pt b2 (.cells #[.int .i64 ((i + 1 : Nat) : Int)] 3 (0, 0)) :: pt L (rec .busy none) :: markD h5.size :: seqP q c0 c1 l :: tabZ p l :: pt b1 (.cells #[.bool false] 4 (0, 0)) :: pt b0 (.cells #[.slice a n c] 27 (0, 0)) :: F) h7 := H7
    exact H7'.ordT 7 [1, 2, 3, 4, 0, 5, 6]
  · intro h6 H6
    refine ⟨.inl rfl, fun _ => ?_, fun e => by cases e⟩
    -- markD, seqP, tabZ, b2, b1, b0, F
    refine LdV (v := .int .i64 (l.length : Int)) (H6.mv 3).get rfl ?_
    rw [DI_int]
    refine LdV (v := .slice a n c) (H6.mv 5).get rfl ?_
    rw [DSl_slice, hn, show ((n : Int) == (n : Int)) = true from by simp, cond_true]
    refine LdV (v := .int .i64 (l.length : Int)) (H6.mv 3).get rfl ?_
    rw [DI_int]
    have h22 : CallsH Try.prog 22 [.pointer p] h6 fun v h' => v = .int .i64 (l.length : Int) ∧ h' = h6 := by
      rcases tabZ_cases (H6.mv 2) with ⟨rfl, rfl, _⟩ | ⟨b, rfl, HT⟩
      · apply F22_ok
        unfold F22
        exact ⟨rfl, by trivial⟩
      · exact F22_spec HT
    refine h22.mono ?_
    rintro v h7 ⟨rfl, rfl⟩
    rw [DI_int]
    refine ⟨LdV (v := .int .i64 (l.length : Int)) (H6.mv 3).get rfl (by rw [DI_int]; rfl), ?_⟩
    refine StCC (b := b1) (i := 0) (H6.mv 4) (show (0 : Nat) < 1 by decide) rfl fun h8 H8 => ?_
    have H8' : sat (pt b1 (.cells #[.bool true] 4 (0, 0)) :: markD h5.size :: seqP q c0 c1 l :: tabZ p l :: pt b2 (.cells #[.int .i64 (l.length : Int)] 3 (0, 0)) :: pt b0 (.cells #[.slice a n c] 27 (0, 0)) :: F) h8 := by
      have e : ((l.length : Int) == (l.length : Int)) = true := by simp
      rw [e] at H8
      exact H8
    have H9 := (H8'.mv 1).set (.deferred none)
    refine ⟨(H8'.mv 1).get, LdV (v := .bool true) (H9.mv 1).get rfl ?_⟩
    rw [DB_bool]
    exact ⟨rfl, H9.ordT 6 [3]⟩
end

end Go.Proofs.Ytfpdejkcjijmmaa.TS
