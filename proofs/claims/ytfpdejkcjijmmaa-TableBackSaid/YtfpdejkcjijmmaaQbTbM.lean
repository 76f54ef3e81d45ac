/- The laws TableBack and TableDiffs (seat T). -/
import Derived.Test.YtfpdejkcjijmmaaQbTb9
import Derived.Test.YtfpdejkcjijmmaaQbTbL
namespace Go.Proofs.Ytfpdejkcjijmmaa.TS
open Go Go.RowKit
open Tb (T get set del Up Has)
open AF (ltB strLt_irrefl strLt_trans strLt_total)
set_option linter.unusedVariables false
set_option linter.unusedSimpArgs false

theorem TableBack_law {a b : Option Addr} {la ca lb cb : Nat} {os ps : List Op} (h : Heap) (hra : RdC h a (os.flatMap opC)) (hla : os.length = la) (hrb : RdC h b (ps.flatMap opC)) (hlb : ps.length = lb) :
    CallsH Try.prog 6 [.slice a la ca, .slice b lb cb] h (Good h) := by
  apply F6_ok
  unfold F6
  refine (TI.F8_spec (sat_old h)).mono ?_
  rintro v h0 ⟨rfl, H0⟩
  rw [DB_bool, Bool.not_true, cond_false]
  refine (F9_spec (hra.old H0) hla).mono ?_
  rintro v h1 ⟨rfl, z, rfl, hz⟩
  rw [DB_bool]
  cases z with
  | true => exact good_of H0
  | false =>
  rw [cond_false]
  refine (F9_spec (hrb.old H0) hlb).mono ?_
  rintro v h2 ⟨rfl, z, rfl, hz2⟩
  rw [DB_bool]
  cases z with
  | true => exact good_of H0
  | false =>
  rw [cond_false]
  have hla3 := hz rfl
  have hlb3 := hz2 rfl
  refine (F20_spec (fun h' H' => hra.old H') hla (by omega) H0).mono ?_
  rintro v h3 ⟨bt, ma, mc, rfl, H1⟩
  refine ⟨_, _, _, _, rfl, ?_⟩
  refine (F20_spec (fun h' H' => by have := H'.mv 2; exact hrb.old this) hlb (by omega) H1).mono ?_
  rintro v h4 ⟨bu, mb, md, rfl, H2⟩
  refine ⟨_, _, _, _, rfl, ?_⟩
  have hAl := mk_len os
  have hBl := mk_len ps
  have UA := mk_up os
  have UB := mk_up ps
  generalize mk os = A at *
  generalize mk ps = B at *
  have H3 : sat (tabZ (some ⟨bt, 0, none⟩) A :: tabZ (some ⟨bu, 0, none⟩) B :: roS mb (B.flatMap pairC) :: roS ma (A.flatMap pairC) :: [old h]) h4 := tabZ_some ((tabZ_some H2).mv 2)
  refine (F23_spec (by omega) (by omega) H3).mono ?_
  rintro v h5 ⟨sa, n, c, d, rfl, hn, D, H5⟩
  rw [DSl_slice]
  have hdl : d.length ≤ 600 := by
    have e := D.uniq (mrg_diffs _ (Nat.le_refl _) UA UB)
    have := mrg_len (A.length + B.length) (a := A) (b := B) (Nat.le_refl _)
    rw [← e] at this
    omega
  refine ⟨fun st hh => hh = h5 ∧ ∃ i : Nat, st = (i : Int) ∧ 1 ≤ i ∧ i ≤ n + 1, fun st _ => ((n : Int) - st).toNat, ⟨rfl, 1, rfl, Nat.le_refl _, by omega⟩, ?_⟩
  rintro st h6 ⟨rfl, i, rfl, hi1, hi⟩
  by_cases hlt : i < n
  · rw [decide_eq_true (show ((i : Int) < (n : Int)) by omega), cond_true]
    have e1 : IntKind.wrap .i64 ((i : Int) - 1) = ((i - 1 : Nat) : Int) := by rw [IntWalk.i64_in _ (by omega)]; omega
    rw [e1]
    have hr := ownS_read H5
    have h1 : d[i - 1]? = some d[i - 1] := List.getElem?_eq_getElem (by omega)
    have h2 : d[i]? = some d[i] := List.getElem?_eq_getElem (by omega)
    refine IdxC (f := chC) (fun _ => rfl) (by decide) hr hn h1 fun _ _ hc => CStr (hc 0 _ rfl) ?_
    refine IdxC (f := chC) (fun _ => rfl) (by decide) hr hn h2 fun _ _ hc => CStr (hc 0 _ rfl) ?_
    have hlt2 := List.pairwise_iff_getElem.1 D.up (i - 1) i (by omega) (by omega) (by omega)
    rw [AF.strLt_eq, hlt2, Bool.not_true, cond_false, wrap64_succ (by omega)]
    exact ⟨⟨rfl, i + 1, rfl, by omega, by omega⟩, by show ((n : Int) - ((i + 1 : Nat) : Int)).toNat < ((n : Int) - (i : Int)).toNat; omega⟩
  · rw [decide_eq_false (by omega), cond_false]
    refine (F25_spec (es := d) (fun h' H' => ownS_read H') hn (by omega) (H5.mv 1)).mono ?_
    rintro v h7 ⟨bx, rfl, H7⟩
    rw [apply_diff UA UB D] at H7
    show DP (.pointer (some ⟨bx, 0, none⟩)) _
    rw [DP_pointer]
    -- tabP bx B, tabZ bt A, own, tabZ bu B, roS mb, roS ma, old
    refine (F19_spec (by omega) (fun h' H' => by have := H'.mv 3; exact roS_read this) rfl (tabZ_some H7)).mono ?_
    rintro v h8 ⟨rfl, H8⟩
    rw [DB_bool, cond_true]
    refine (F23_spec (by omega) (by omega) (H8.ordT 4 [0, 3, 1, 2])).mono ?_
    rintro v h9 ⟨sa2, n2, c2, d2, rfl, hn2, D2, H9⟩
    rw [DSl_slice]
    have e2 := diff_self D2
    subst e2
    have hn20 : n2 = 0 := hn2.symm
    subst hn20
    rw [show (((0 : Nat) : Int) == 0) = true from rfl, cond_true]
    -- own, tabZ bx, tabZ bu, tabZ bt A, ...
    refine (F18_Z (H9.mv 3)).mono ?_
    rintro v h10 ⟨bc, rfl, H10⟩
    show DP (.pointer (some ⟨bc, 0, none⟩)) _
    rw [DP_pointer]
    refine (F23_spec (by omega) (by omega) ((tabZ_some H10).mv 1)).mono ?_
    rintro v h11 ⟨sa3, n3, c3, d3, rfl, hn3, D3, H11⟩
    rw [DSl_slice]
    have e3 := diff_self D3
    subst e3
    have hn30 : n3 = 0 := hn3.symm
    subst hn30
    rw [show (((0 : Nat) : Int) == 0) = true from rfl]
    -- own, tabZ bt, tabZ bc, own, tabZ bx, tabZ bu, roS mb, roS ma, old
    exact good_of (H11.mv 9)

end Go.Proofs.Ytfpdejkcjijmmaa.TS
