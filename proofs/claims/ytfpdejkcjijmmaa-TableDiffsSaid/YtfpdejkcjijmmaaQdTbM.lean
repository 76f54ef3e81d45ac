/- The laws TableBack and TableDiffs (seat T). -/
import Derived.Test.YtfpdejkcjijmmaaQdTb9
import Derived.Test.YtfpdejkcjijmmaaQdTbL
namespace Go.Proofs.Ytfpdejkcjijmmaa.TS
open Go Go.RowKit
open Tb (T get set del Up Has)
open AF (ltB strLt_irrefl strLt_trans strLt_total)
set_option linter.unusedVariables false
set_option linter.unusedSimpArgs false

theorem TableDiffs_law {a b c : Option Addr} {la ca lb cb lc cc : Nat} {os ps : List Op} {cs : List Ch} (h : Heap) (hra : RdC h a (os.flatMap opC)) (hla : os.length = la) (hrb : RdC h b (ps.flatMap opC)) (hlb : ps.length = lb) (hrc : RdC h c (cs.flatMap chC)) (hlc : cs.length = lc) :
    CallsH Try.prog 5 [.slice a la ca, .slice b lb cb, .slice c lc cc] h (Good h) := by
  apply F5_ok
  unfold F5
  refine (TI.F8_spec (sat_old h)).mono ?_
  rintro v h0 ⟨rfl, H0⟩
  rw [DB_bool, Bool.not_true, cond_false]
  refine (F9_spec (hra.old H0) hla).mono ?_
  rintro v h1 ⟨rfl, z, rfl, hz⟩
  rw [DB_bool]
  cases z with
  | true => exact good_of H0
  | false =>
  rw [cond_false]
  refine (F9_spec (hrb.old H0) hlb).mono ?_
  rintro v h2 ⟨rfl, z, rfl, hz2⟩
  rw [DB_bool]
  cases z with
  | true => exact good_of H0
  | false =>
  rw [cond_false]
  have hla3 := hz rfl
  have hlb3 := hz2 rfl
  by_cases hc3 : lc ≤ 300
  case neg =>
    rw [decide_eq_true (by omega), cond_true]
    exact good_of H0
  rw [decide_eq_false (by omega), cond_false]
  refine (F20_spec (fun h' H' => hra.old H') hla (by omega) H0).mono ?_
  rintro v h3 ⟨bt, ma, mc, rfl, H1⟩
  refine ⟨_, _, _, _, rfl, ?_⟩
  refine (F20_spec (fun h' H' => by have := H'.mv 2; exact hrb.old this) hlb (by omega) H1).mono ?_
  rintro v h4 ⟨bu, mb, md, rfl, H2⟩
  refine ⟨_, _, _, _, rfl, ?_⟩
  have hAl := mk_len os
  have hBl := mk_len ps
  have UA := mk_up os
  have UB := mk_up ps
  generalize mk os = A at *
  generalize mk ps = B at *
  have H3 : sat (tabZ (some ⟨bt, 0, none⟩) A :: tabZ (some ⟨bu, 0, none⟩) B :: roS mb (B.flatMap pairC) :: roS ma (A.flatMap pairC) :: [old h]) h4 := tabZ_some ((tabZ_some H2).mv 2)
  refine (F23_spec (by omega) (by omega) H3).mono ?_
  rintro v h5 ⟨sa, n, k, d, rfl, hn, D, H5⟩
  rw [DSl_slice]
  have ed := D.uniq (mrg_diffs _ (Nat.le_refl _) UA UB)
  have hdl : d.length ≤ 600 := by
    have := mrg_len (A.length + B.length) (a := A) (b := B) (Nat.le_refl _)
    rw [← ed] at this
    omega
  refine (F24_spec (a := A) (b := B) (fun h' H' => by have := H'.mv 4; exact roS_read this) (fun h' H' => by have := H'.mv 3; exact roS_read this) rfl rfl (by omega) (by omega) H5).mono ?_
  rintro v h6 ⟨wa, wn, wc, rfl, hwn, H6⟩
  rw [DSl_slice]
  rw [← ed] at hwn H6
  have ewn : wn = n := by rw [← hwn, hn]
  subst ewn
  rw [show (((wn : Nat) : Int) != (wn : Int)) = false from by simp, cond_false]
  refine ⟨fun st hh => hh = h6 ∧ ∃ i : Nat, st = (i : Int) ∧ i ≤ wn, fun st _ => ((wn : Int) - st).toNat, ⟨rfl, 0, rfl, Nat.zero_le _⟩, ?_⟩
  rintro st h7 ⟨rfl, i, rfl, hi⟩
  by_cases hlt : i < wn
  · rw [decide_eq_true (show ((i : Int) < (wn : Int)) by omega), cond_true]
    have hrw := ownS_read H6
    have hrd := ownS_read (H6.mv 1)
    obtain ⟨x, hx⟩ : ∃ x, d[i]? = some x := ⟨_, List.getElem?_eq_getElem (by omega)⟩
    refine IdxC (f := chC) (fun _ => rfl) (by decide) hrd hn hx fun _ _ hc => CStr (hc 0 _ rfl) ?_
    refine IdxC (f := chC) (fun _ => rfl) (by decide) hrw hn hx fun _ _ hc => CStr (hc 0 _ rfl) ?_
    rw [strEq_dec, decide_eq_true rfl, Bool.not_true, cond_false]
    refine IdxC (f := chC) (fun _ => rfl) (by decide) hrd hn hx fun _ _ hc => CStr (hc 1 _ rfl) ?_
    refine IdxC (f := chC) (fun _ => rfl) (by decide) hrw hn hx fun _ _ hc => CStr (hc 1 _ rfl) ?_
    rw [strEq_dec, decide_eq_true rfl, Bool.not_true, cond_false]
    refine IdxC (f := chC) (fun _ => rfl) (by decide) hrd hn hx fun _ _ hc => CBool (hc 2 _ rfl) ?_
    refine IdxC (f := chC) (fun _ => rfl) (by decide) hrw hn hx fun _ _ hc => CBool (hc 2 _ rfl) ?_
    rw [show (!(x.2.2 == x.2.2)) = false from by simp, cond_false, wrap64_succ (by omega)]
    exact ⟨⟨rfl, i + 1, rfl, by omega⟩, by show ((wn : Int) - ((i + 1 : Nat) : Int)).toNat < ((wn : Int) - (i : Int)).toNat; omega⟩
  · rw [decide_eq_false (by omega), cond_false]
    -- own w, own d, tabZ bt, tabZ bu, roS mb, roS ma, old
    have H8 : sat (tabZ (some ⟨bt, 0, none⟩) A :: tabZ (some ⟨bu, 0, none⟩) B :: roS mb (B.flatMap pairC) :: roS ma (A.flatMap pairC) :: [old h]) h7 := H6.drop.drop
    refine ⟨fun st hh => ∃ (i : Nat) (oa : Option Addr) (oc : Nat), st = (⟨oa, i, oc⟩, (i : Int)) ∧ i ≤ lc ∧ sat (ownS 54 3 oa i oc ((cs.take i).flatMap chC) :: tabZ (some ⟨bt, 0, none⟩) A :: tabZ (some ⟨bu, 0, none⟩) B :: roS mb (B.flatMap pairC) :: roS ma (A.flatMap pairC) :: [old h]) hh,
      fun st _ => ((lc : Int) - st.2).toNat, ⟨0, none, 0, rfl, Nat.zero_le _, ownS_nil 54 3 H8⟩, ?_⟩
    rintro st h8 ⟨i, oa, oc, rfl, hi, H9⟩
    simp only []
    by_cases hlt : i < lc
    · rw [decide_eq_true (show ((i : Int) < (lc : Int)) by omega), cond_true]
      obtain ⟨x, hx⟩ : ∃ x, cs[i]? = some x := ⟨_, List.getElem?_eq_getElem (by omega)⟩
      have hr := hrc.old (H9.mv 5)
      refine IdxC (f := chC) (fun _ => rfl) (by decide) hr hlc hx fun _ _ hc => CStr (hc 0 _ rfl) ?_
      refine IdxC (f := chC) (fun _ => rfl) (by decide) hr hlc hx fun _ _ hc => CStr (hc 1 _ rfl) ?_
      cases decide (IntKind.i64.wrap ((x.1.size : Int) + (x.2.1.size : Int)) > 1000) with
      | true => exact good_of (H9.mv 5)
      | false =>
        rw [cond_false]
        refine IdxC (f := chC) (fun _ => rfl) (by decide) hr hlc hx fun _ _ hc => CStr (hc 0 _ rfl) ?_
        refine IdxC (f := chC) (fun _ => rfl) (by decide) hr hlc hx fun _ _ hc => CStr (hc 1 _ rfl) ?_
        refine IdxC (f := chC) (fun _ => rfl) (by decide) hr hlc hx fun _ _ hc => CBool (hc 2 _ rfl) ?_
        refine Al_and rfl (pushEl (f := chC) (sz := 3) (by_ := chB) (x := x) (by kernel_rfl) (by kernel_rfl) (by kernel_rfl) (fun _ => rfl) (fun v hv => ?_) rfl (by rw [List.length_take]; omega) (by simp only [chB]; omega) H9 fun a' c' h' H10 => ?_)
        · simp only [List.mem_cons, List.not_mem_nil, or_false] at hv
          rcases hv with rfl | rfl | rfl <;> rfl
        · rw [wrap64_succ (by omega)]
          refine ⟨⟨i + 1, a', c', rfl, by omega, ?_⟩, by show ((lc : Int) - ((i + 1 : Nat) : Int)).toNat < ((lc : Int) - (i : Int)).toNat; omega⟩
          rw [List.take_add_one, hx]
          exact H10
    · rw [decide_eq_false (by omega), cond_false]
      have ei : i = lc := by omega
      subst ei
      rw [List.take_of_length_le (by omega)] at H9
      refine (F25_spec (es := cs) (fun h' H' => ownS_read H') hlc (by omega) (H9.mv 1)).mono ?_
      rintro v h9 ⟨bx, rfl, H10⟩
      show DP (.pointer (some ⟨bx, 0, none⟩)) _
      rw [DP_pointer]
      -- tabP bx, tabZ bt, own, tabZ bu, roS mb, roS ma, old
      have H11 := ((H10.mv 5).dup (roS_pers _ _))
      -- roS ma, roS ma, tabP bx, tabZ bt, own, tabZ bu, roS mb, old
      refine (F26_spec (l := A) (es := cs) (fun h' H' => by have := H'.mv 6; exact hrc.old this) hlc (by omega) rfl (by omega) UA H11).mono ?_
      rintro v h10 ⟨xa, xn, xc, rfl, hxn, H12⟩
      rw [DSl_slice]
      -- roS xa, roS ma, tabP bx, tabZ bt, own, tabZ bu, roS mb, old
      have hxl := appL_len A cs
      refine (F19_spec (by omega) (fun h' H' => roS_read H') hxn (tabZ_some (H12.mv 2))).mono ?_
      rintro v h11 ⟨rfl, H13⟩
      rw [DB_bool, cond_true]
      -- tabZ bx, roS xa, roS ma, tabZ bt, own, tabZ bu, roS mb, old
      refine (F19_spec (by omega) (fun h' H' => by have := H'.mv 2; exact roS_read this) rfl (H13.mv 3)).mono ?_
      rintro v h12 ⟨rfl, H14⟩
      rw [DB_bool, cond_true]
      -- tabZ bt, tabZ bx, roS xa, roS ma, own, tabZ bu, roS mb, old
      refine (F19_spec (by omega) (fun h' H' => by have := H'.mv 5; exact roS_read this) rfl (H14.mv 5)).mono ?_
      rintro v h13 ⟨rfl, H15⟩
      rw [DB_bool]
      exact good_of (H15.mv 7)

end Go.Proofs.Ytfpdejkcjijmmaa.TS
