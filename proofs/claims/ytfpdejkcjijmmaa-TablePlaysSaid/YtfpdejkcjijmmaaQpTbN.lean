/- The law TablePlays (seat T). -/
import Derived.Test.YtfpdejkcjijmmaaQpTbM
namespace Go.Proofs.Ytfpdejkcjijmmaa.TS
open Go Go.RowKit
open Tb (T get set del Up Has)
open AF (ltB strLt_irrefl strLt_trans strLt_total)
set_option linter.unusedVariables false
set_option linter.unusedSimpArgs false

/-- Marks that are left at the end. -/
def marks : List Nat → HProp
  | [] => Many []
  | d :: ds => Many [markD d, marks ds]
theorem marks_nil {F : List HProp} {h : Heap} (H : sat F h) : sat (marks [] :: F) h := sat.shut (m := []) H
theorem marks_cons {d : Nat} {ds : List Nat} {F : List HProp} {h : Heap} (H : sat (markD d :: marks ds :: F) h) : sat (marks (d :: ds) :: F) h := sat.shut (m := [markD d, marks ds]) H
theorem marks_leave {K : Heap → Prop} : ∀ {ds : List Nat} {F : List HProp} {h : Heap}, sat (marks ds :: F) h → (∀ h', sat F h' → K h') → leaveH ds h K
  | [], F, h, H, hK => hK h (sat.open (m := []) H)
  | d :: ds, F, h, H, hK => by
    have H1 : sat (markD d :: marks ds :: F) h := sat.open (m := [markD d, marks ds]) H
    exact ⟨H1.get, marks_leave (H1.set (.deferred none)).drop hK⟩
/-- Where a walk stands. -/
abbrev stS (bt b1 b0 : Nat) (l : T VT) (ma : Option Addr) (mc : Nat) (ds : List Nat) (h : Heap) : List HProp :=
  [tabP bt l, pt b1 (.cells #[.slice ma l.length mc] 27 (0, 0)), roS ma (l.flatMap pairC), pt b0 (.cells #[.bool false] 4 (0, 0)), marks ds, old h]
theorem F19_S {bt b1 b0 : Nat} {l : T VT} {ma : Option Addr} {mc : Nat} {ds : List Nat} {h hh : Heap} (hl : l.length < 1099511627776) (H : sat (stS bt b1 b0 l ma mc ds h) hh) :
    CallsH Try.prog 19 [.pointer (some ⟨bt, 0, none⟩), .slice ma l.length mc] hh fun v h' => v = .bool true ∧ sat (stS bt b1 b0 l ma mc ds h) h' :=
  (F19_spec hl (fun h' H' => by have := H'.mv 1; exact roS_read this) rfl (tabZ_some H)).mono fun v h' ⟨e, H'⟩ => ⟨e, tabZ_some' H'⟩
/-- A number in a cell of its own. -/
def rdI (h : Heap) (b : Nat) : Int := match cellAt h ⟨b, 0, none⟩ with
  | some (.int _ x) => x
  | _ => 0
theorem rdI_of {b : Nat} {k : IntKind} {x : Int} {e : TypeId} {fr : Nat × Nat} {F : List HProp} {h : Heap} (H : sat (pt b (.cells #[.int k x] e fr) :: F) h) : rdI h b = x := by
  unfold rdI
  rw [cellAt_of H.get]
  rfl
theorem get_lt {l : T VT} (U : Up l) {k : ByteArray} {i : Nat} {p : ByteArray × VT} (hp : l[i]? = some p) : (ltB p.1 k = true → i < atL l k) ∧ (ltB p.1 k = false → atL l k ≤ i) := by
  refine ⟨fun h => ?_, fun h => ?_⟩
  · rcases Nat.lt_or_ge i (atL l k) with h1 | h1
    · exact h1
    · rw [above_atL U h1 hp] at h; cases h
  · rcases Nat.lt_or_ge i (atL l k) with h1 | h1
    · rw [below_atL h1 hp] at h; cases h
    · exact h1
theorem TablePlays_law {a : Option Addr} {la ca : Nat} {os : List Op} (h : Heap) (hra : RdC h a (os.flatMap opC)) (hla : os.length = la) :
    CallsH Try.prog 3 [.slice a la ca] h (Good h) := by
  apply F3_ok
  unfold F3
  refine Al_sat (sat_old h) fun b0 h0 H0 => ?_
  refine (TI.F8_spec H0).mono ?_
  rintro v h1 ⟨rfl, H1⟩
  rw [DB_bool, Bool.not_true, cond_false]
  refine (F9_spec (hra.old (H1.mv 1)) hla).mono ?_
  rintro v h2 ⟨rfl, z, rfl, hz⟩
  rw [DB_bool]
  cases z with
  | true =>
    rw [cond_true]
    refine StCC H1 (show (0 : Nat) < 1 by decide) rfl fun h3 H3 => ?_
    refine LdV (v := .bool true) H3.get rfl ?_
    rw [DB_bool]
    exact good_of (H3.mv 1)
  | false =>
  rw [cond_false]
  have hla3 := hz rfl
  refine (F10_none H1).mono ?_
  rintro v h3 ⟨bt0, rfl, H3⟩
  show DP (.pointer (some ⟨bt0, 0, none⟩)) _
  rw [DP_pointer]
  refine Al_sat H3 fun b1 h4 H4 => ?_
  -- b1, tabP, b0, old
  have H5 : sat (stS bt0 b1 b0 [] none 0 [] h) h4 := ((marks_nil ((roS_none H4).ord [2, 1, 0, 3, 4])).ord [1, 2, 3, 4, 0, 5])
  refine ⟨fun st hh => ∃ (i bt : Nat) (l : T VT) (ma : Option Addr) (mc : Nat), st.1 = (some ⟨bt, 0, none⟩, (i : Int)) ∧ i ≤ la ∧ Up l ∧ l.length ≤ i ∧ sat (stS bt b1 b0 l ma mc st.2 h) hh,
    fun st _ => ((la : Int) - st.1.2).toNat, ⟨0, bt0, [], none, 0, rfl, Nat.zero_le _, Up.nil, Nat.le_refl _, H5⟩, ?_⟩
  rintro ⟨st, ds⟩ h5 ⟨i, bt, l, ma, mc, est, hi, U, hll, HS⟩
  simp only at est
  subst est
  simp only [] at HS ⊢
  by_cases hlt : i < la
  case neg =>
    rw [decide_eq_false (by omega), cond_false]
    refine StCC (b := b0) (i := 0) (HS.mv 3) (show (0 : Nat) < 1 by decide) rfl fun h6 H6 => ?_
    -- b0, tabP, b1, roS, marks, old
    refine marks_leave (H6.mv 4) fun h7 H7 => ?_
    refine LdV (v := .bool true) H7.get rfl ?_
    rw [DB_bool]
    exact good_of (H7.mv 4)
  case pos =>
  rw [decide_eq_true (show ((i : Int) < (la : Int)) by omega), cond_true]
  obtain ⟨x, hx⟩ : ∃ x, os[i]? = some x := ⟨_, List.getElem?_eq_getElem (by omega)⟩
  have wi : IntKind.wrap .i64 ((i : Int) + 1) = ((i + 1 : Nat) : Int) := wrap64_succ (by omega)
  have hme : ((la : Int) - ((i + 1 : Nat) : Int)).toNat < ((la : Int) - (i : Int)).toNat := by omega
  refine IdxC (f := opC) (fun _ => rfl) (by decide) (hra.old (HS.mv 5)) hla hx fun _ _ hc => ⟨_, hc 0 _ rfl, _, hc 1 _ rfl, _, hc 2 _ rfl, x.1, x.2.1, x.2.2, rfl, ?_⟩
  refine Al_sat HS fun b2 h6 H6 => StCC H6 (show (0 : Nat) < 3 by decide) rfl fun h7 H7 => StCC H7 (show (1 : Nat) < 3 by decide) rfl fun h8 H8 => StCC H8 (show (2 : Nat) < 3 by decide) rfl fun h9 H9 => ?_
  have J : sat (pt b2 (.cells #[.int .i64 x.1, .string x.2.1, .string x.2.2] 29 (0, 0)) :: stS bt b1 b0 l ma mc ds h) h9 := H9
  refine LdC (v := .string x.2.1) J rfl ?_
  rw [DS_string]
  refine (F11_spec (J.mv 1)).mono ?_
  rintro v h10 ⟨rfl, rfl⟩
  refine ⟨_, _, rfl, ?_⟩
  refine LdV (v := .slice ma l.length mc) (J.mv 2).get rfl ?_
  rw [DSl_slice]
  refine LdC (v := .string x.2.1) J rfl ?_
  rw [DS_string]
  refine (F12_spec (roS_read (J.mv 3)) rfl (by omega)).mono ?_
  rintro v h11 ⟨rfl, rfl⟩
  refine ⟨_, _, rfl, ?_⟩
  rw [strEq_dec, decide_eq_true rfl, Bool.not_true, cond_false]
  rw [show (!((get l x.2.1).isSome == (get l x.2.1).isSome)) = false from by simp, cond_false]
  refine LdC (v := .int .i64 x.1) J rfl ?_
  rw [DI_int]
  -- b2, tabP, b1, roS, b0, marks, old
  by_cases k0 : x.1 = 0
  · rw [k0, show ((0 : Int) == 0) = true from rfl, cond_true]
    refine LdC (v := .string x.2.1) J rfl ?_
    rw [DS_string]
    refine LdC (v := .string x.2.2) J rfl ?_
    rw [DS_string]
    refine (F13_spec (x := x.2.2) (J.mv 1)).mono ?_
    rintro v h12 ⟨rfl, J1⟩
    refine ⟨rfl, ?_⟩
    -- tabP, b2, b1, roS, b0, marks, old
    refine LdV (v := .slice ma l.length mc) (J1.mv 2).get rfl ?_
    rw [DSl_slice]
    refine LdC (v := .string x.2.1) (J1.mv 1) rfl ?_
    rw [DS_string]
    refine LdC (v := .string x.2.2) (J1.mv 1) rfl ?_
    rw [DS_string]
    refine (F14_spec (l := l) (fun h' H' => by have := H'.mv 3; exact roS_read this) rfl (by omega) U J1).mono ?_
    rintro v h13 ⟨a', n', c', rfl, hn', J2⟩
    subst hn'
    rw [DSl_slice]
    have J3 := roS_of J2
    -- roS', tabP, b2, b1, roS, b0, marks, old
    refine StCC (b := b1) (i := 0) (J3.mv 3) (show (0 : Nat) < 1 by decide) rfl fun h14 J4 => ?_
    -- b1, roS', tabP, b2, roS, b0, marks, old
    refine LdV (v := .slice a' (set x.2.1 x.2.2 l).length c') J4.get rfl ?_
    rw [DSl_slice]
    have hsl := Tb.set_length x.2.1 x.2.2 l
    refine (F19_S (by omega) (J4.ordT 7 [2, 0, 1, 5, 6])).mono ?_
    rintro v h15 ⟨rfl, HS⟩
    rw [DB_bool, Bool.not_true, cond_false, wi]
    exact ⟨⟨i + 1, bt, _, a', c', rfl, by omega, U.set _ _, by omega, HS⟩, hme⟩
  rw [show (x.1 == 0) = false from by simpa using k0, cond_false]
  by_cases k1 : x.1 = 1
  · rw [k1, show ((1 : Int) == 1) = true from rfl, cond_true]
    refine LdC (v := .string x.2.1) J rfl ?_
    rw [DS_string]
    refine (F15_spec (J.mv 1)).mono ?_
    rintro v h12 ⟨rfl, J1⟩
    rw [DB_bool, show (!((get l x.2.1).isSome == (get l x.2.1).isSome)) = false from by simp, cond_false]
    -- tabP, b2, b1, roS, b0, marks, old
    refine LdV (v := .slice ma l.length mc) (J1.mv 2).get rfl ?_
    rw [DSl_slice]
    refine LdC (v := .string x.2.1) (J1.mv 1) rfl ?_
    rw [DS_string]
    refine (F16_spec (l := l) (fun h' H' => by have := H'.mv 3; exact roS_read this) rfl (by omega) J1).mono ?_
    rintro v h13 ⟨a', n', c', rfl, hn', J2⟩
    subst hn'
    rw [DSl_slice]
    have J3 := roS_of J2
    refine StCC (b := b1) (i := 0) (J3.mv 3) (show (0 : Nat) < 1 by decide) rfl fun h14 J4 => ?_
    refine LdV (v := .slice a' (del l x.2.1).length c') J4.get rfl ?_
    rw [DSl_slice]
    have hsl := Tb.del_length l x.2.1
    refine (F19_S (by omega) (J4.ordT 7 [2, 0, 1, 5, 6])).mono ?_
    rintro v h15 ⟨rfl, HS⟩
    rw [DB_bool, Bool.not_true, cond_false, wi]
    exact ⟨⟨i + 1, bt, _, a', c', rfl, by omega, U.del _, by omega, HS⟩, hme⟩
  rw [show (x.1 == 1) = false from by simpa using k1, cond_false]
  by_cases k3 : x.1 = 3
  · rw [k3, show ((3 : Int) == 3) = true from rfl, cond_true]
    refine Al_sat J fun b3 h12 J1 => StCC J1 (show (0 : Nat) < 1 by decide) rfl fun h13 J2 => ?_
    have J3 : sat (pt b3 (.cells #[.int .i64 ((0 : Nat) : Int)] 3 (0, 0)) :: pt b2 (.cells #[.int .i64 x.1, .string x.2.1, .string x.2.2] 29 (0, 0)) :: stS bt b1 b0 l ma mc ds h) h13 := J2
    refine ⟨fun _ hh => ∃ j : Nat, j ≤ atL l x.2.1 ∧ sat (pt b3 (.cells #[.int .i64 (j : Int)] 3 (0, 0)) :: pt b2 (.cells #[.int .i64 x.1, .string x.2.1, .string x.2.2] 29 (0, 0)) :: stS bt b1 b0 l ma mc ds h) hh,
      fun _ hh => ((l.length : Int) - rdI hh b3).toNat, ⟨0, Nat.zero_le _, J3⟩, ?_⟩
    rintro _ h14 ⟨j, hj, K1⟩
    have hal := atL_le l x.2.1
    refine LdV (v := .int .i64 (j : Int)) K1.get rfl ?_
    rw [DI_int]
    -- b3, b2, tabP, b1, roS, b0, marks, old
    refine LdV (v := .slice ma l.length mc) (K1.mv 3).get rfl ?_
    rw [DSl_slice]
    by_cases hjl : j < l.length
    · rw [decide_eq_true (show ((j : Int) < (l.length : Int)) by omega), cond_true]
      refine LdV (v := .slice ma l.length mc) (K1.mv 3).get rfl ?_
      rw [DSl_slice]
      refine LdV (v := .int .i64 (j : Int)) K1.get rfl ?_
      rw [DI_int]
      obtain ⟨p, hp⟩ : ∃ p, l[j]? = some p := ⟨_, List.getElem?_eq_getElem (by omega)⟩
      refine IdxC (f := pairC) (fun _ => rfl) (by decide) (roS_read (K1.mv 4)) rfl hp fun _ _ hc => CStr (hc 0 _ rfl) ?_
      refine LdC (v := .string x.2.1) (K1.mv 1) rfl ?_
      rw [DS_string, AF.strLt_eq]
      cases hb : ltB p.1 x.2.1 with
      | true =>
        rw [cond_true]
        refine LdV (v := .int .i64 (j : Int)) K1.get rfl ?_
        rw [DI_int, wrap64_succ (by omega)]
        refine StCC (b := b3) (i := 0) K1 (show (0 : Nat) < 1 by decide) rfl fun h15 K2 => ?_
        refine ⟨⟨j + 1, (get_lt U hp).1 hb, K2⟩, ?_⟩
        have e1 := rdI_of K1
        have e2 : rdI h15 b3 = ((j + 1 : Nat) : Int) := rdI_of K2
        show ((l.length : Int) - rdI h15 b3).toNat < ((l.length : Int) - rdI h14 b3).toNat
        rw [e1, e2]
        omega
      | false =>
        rw [cond_false]
        have ej : j = atL l x.2.1 := by have := (get_lt U hp).2 hb; omega
        subst ej
        refine LdC (v := .string x.2.1) (K1.mv 1) rfl ?_
        rw [DS_string]
        refine (F17_spec (key := x.2.1) (by omega) (K1.mv 2)).mono ?_
        rintro v h10 ⟨q, c0, c1, rfl, K2⟩
        refine ⟨_, rfl, ?_⟩
        -- seqP, tabP, b3, b2, b1, roS, b0, marks, old
        have K3 : sat (seqP q c0 c1 (fromL l x.2.1) :: pt b3 (.cells #[.int .i64 ((atL l x.2.1 + 0 : Nat) : Int)] 3 (0, 0)) :: pt b1 (.cells #[.slice ma l.length mc] 27 (0, 0)) :: roS ma (l.flatMap pairC) :: tabP bt l :: pt b0 (.cells #[.bool false] 4 (0, 0)) :: marks ds :: [old h]) h10 := K2.ordT 8 [0, 2, 4, 5, 1, 6, 7]
        refine range_tab (fun i => pt b3 (.cells #[.int .i64 ((atL l x.2.1 + i : Nat) : Int)] 3 (0, 0)) :: pt b1 (.cells #[.slice ma l.length mc] 27 (0, 0)) :: roS ma (l.flatMap pairC) :: tabP bt l :: pt b0 (.cells #[.bool false] 4 (0, 0)) :: marks ds :: [old h]) (fun _ => [pur False]) K3 ?_ ?_ (fun j h2 H2 => (sat_pur.1 (H2.mv 1)).1.elim)
        · intro i2 y L rec h11 Q hy HR go _
          refine ⟨y.1, y.2, rfl, HR.get, ?_⟩
          have HB := HR.set (rec .busy none)
          -- L, markD, seqP, b3, b1, roS, tabP, b0, marks, old
          have hy2 : l[atL l x.2.1 + i2]? = some y := by rw [← drop_atL, List.getElem?_drop] at hy; exact hy
          have hi2 := (List.getElem?_eq_some_iff.1 hy2).1
          refine LdV (v := .int .i64 ((atL l x.2.1 + i2 : Nat) : Int)) (HB.mv 3).get rfl ?_
          rw [DI_int]
          refine LdV (v := .slice ma l.length mc) (HB.mv 4).get rfl ?_
          rw [DSl_slice, decide_eq_false (by omega), cond_false]
          refine LdV (v := .slice ma l.length mc) (HB.mv 4).get rfl ?_
          rw [DSl_slice]
          refine LdV (v := .int .i64 ((atL l x.2.1 + i2 : Nat) : Int)) (HB.mv 3).get rfl ?_
          rw [DI_int]
          refine IdxC (f := pairC) (fun _ => rfl) (by decide) (roS_read (HB.mv 5)) rfl hy2 fun _ _ hc => ⟨_, hc 0 _ rfl, _, hc 1 _ rfl, y.1, y.2, rfl, ?_⟩
          rw [strEq_dec, strEq_dec, decide_eq_true rfl, decide_eq_true rfl, Bool.and_true, Bool.and_true, Bool.not_true, cond_false]
          refine LdV (v := .int .i64 ((atL l x.2.1 + i2 : Nat) : Int)) (HB.mv 3).get rfl ?_
          rw [DI_int, wrap64_succ (by omega)]
          refine StCC (b := b3) (i := 0) (HB.mv 3) (show (0 : Nat) < 1 by decide) rfl fun h7 H7 => go h7 ?_
          have H7' : sat (pt b3 (.cells #[.int .i64 ((atL l x.2.1 + (i2 + 1) : Nat) : Int)] 3 (0, 0)) :: pt L (rec .busy none) :: markD h10.size :: seqP q c0 c1 (fromL l x.2.1) :: pt b1 (.cells #[.slice ma l.length mc] 27 (0, 0)) :: roS ma (l.flatMap pairC) :: tabP bt l :: pt b0 (.cells #[.bool false] 4 (0, 0)) :: marks ds :: [old h]) h7 := H7
          exact H7'.ordT 4 [1, 2, 3, 0]
        · intro h11 K4
          -- markD, seqP, b3, b1, roS, tabP, b0, marks, old
          have hfl : atL l x.2.1 + (fromL l x.2.1).length = l.length := by
            have := atL_le l x.2.1
            rw [← drop_atL, List.length_drop]
            omega
          rw [hfl] at K4
          refine ⟨.inl rfl, fun _ => ?_, fun e => by cases e⟩
          refine LdV (v := .int .i64 (l.length : Int)) (K4.mv 2).get rfl ?_
          rw [DI_int]
          refine LdV (v := .slice ma l.length mc) (K4.mv 3).get rfl ?_
          rw [DSl_slice, show (((l.length : Nat) : Int) != (l.length : Int)) = false from by simp, cond_false]
          refine LdV (v := .slice ma l.length mc) (K4.mv 3).get rfl ?_
          rw [DSl_slice]
          have K5 : sat (stS bt b1 b0 l ma mc (h10.size :: ds) h) h11 := ((marks_cons (K4.ordT 8 [0, 7, 5, 3, 4, 6])).ordT 5 [1, 2, 3, 4, 0])
          refine (F19_S (by omega) K5).mono ?_
          rintro v h12 ⟨rfl, HS⟩
          rw [DB_bool, Bool.not_true, cond_false, wi]
          exact ⟨⟨i + 1, bt, l, ma, mc, rfl, by omega, U, by omega, HS⟩, hme⟩
    · rw [decide_eq_false (by omega), cond_false]
      have ej : j = atL l x.2.1 := by omega
      subst ej
      refine LdC (v := .string x.2.1) (K1.mv 1) rfl ?_
      rw [DS_string]
      refine (F17_spec (key := x.2.1) (by omega) (K1.mv 2)).mono ?_
      rintro v h10 ⟨q, c0, c1, rfl, K2⟩
      refine ⟨_, rfl, ?_⟩
      -- seqP, tabP, b3, b2, b1, roS, b0, marks, old
      have K3 : sat (seqP q c0 c1 (fromL l x.2.1) :: pt b3 (.cells #[.int .i64 ((atL l x.2.1 + 0 : Nat) : Int)] 3 (0, 0)) :: pt b1 (.cells #[.slice ma l.length mc] 27 (0, 0)) :: roS ma (l.flatMap pairC) :: tabP bt l :: pt b0 (.cells #[.bool false] 4 (0, 0)) :: marks ds :: [old h]) h10 := K2.ordT 8 [0, 2, 4, 5, 1, 6, 7]
      refine range_tab (fun i => pt b3 (.cells #[.int .i64 ((atL l x.2.1 + i : Nat) : Int)] 3 (0, 0)) :: pt b1 (.cells #[.slice ma l.length mc] 27 (0, 0)) :: roS ma (l.flatMap pairC) :: tabP bt l :: pt b0 (.cells #[.bool false] 4 (0, 0)) :: marks ds :: [old h]) (fun _ => [pur False]) K3 ?_ ?_ (fun j h2 H2 => (sat_pur.1 (H2.mv 1)).1.elim)
      · intro i2 y L rec h11 Q hy HR go _
        refine ⟨y.1, y.2, rfl, HR.get, ?_⟩
        have HB := HR.set (rec .busy none)
        -- L, markD, seqP, b3, b1, roS, tabP, b0, marks, old
        have hy2 : l[atL l x.2.1 + i2]? = some y := by rw [← drop_atL, List.getElem?_drop] at hy; exact hy
        have hi2 := (List.getElem?_eq_some_iff.1 hy2).1
        refine LdV (v := .int .i64 ((atL l x.2.1 + i2 : Nat) : Int)) (HB.mv 3).get rfl ?_
        rw [DI_int]
        refine LdV (v := .slice ma l.length mc) (HB.mv 4).get rfl ?_
        rw [DSl_slice, decide_eq_false (by omega), cond_false]
        refine LdV (v := .slice ma l.length mc) (HB.mv 4).get rfl ?_
        rw [DSl_slice]
        refine LdV (v := .int .i64 ((atL l x.2.1 + i2 : Nat) : Int)) (HB.mv 3).get rfl ?_
        rw [DI_int]
        refine IdxC (f := pairC) (fun _ => rfl) (by decide) (roS_read (HB.mv 5)) rfl hy2 fun _ _ hc => ⟨_, hc 0 _ rfl, _, hc 1 _ rfl, y.1, y.2, rfl, ?_⟩
        rw [strEq_dec, strEq_dec, decide_eq_true rfl, decide_eq_true rfl, Bool.and_true, Bool.and_true, Bool.not_true, cond_false]
        refine LdV (v := .int .i64 ((atL l x.2.1 + i2 : Nat) : Int)) (HB.mv 3).get rfl ?_
        rw [DI_int, wrap64_succ (by omega)]
        refine StCC (b := b3) (i := 0) (HB.mv 3) (show (0 : Nat) < 1 by decide) rfl fun h7 H7 => go h7 ?_
        have H7' : sat (pt b3 (.cells #[.int .i64 ((atL l x.2.1 + (i2 + 1) : Nat) : Int)] 3 (0, 0)) :: pt L (rec .busy none) :: markD h10.size :: seqP q c0 c1 (fromL l x.2.1) :: pt b1 (.cells #[.slice ma l.length mc] 27 (0, 0)) :: roS ma (l.flatMap pairC) :: tabP bt l :: pt b0 (.cells #[.bool false] 4 (0, 0)) :: marks ds :: [old h]) h7 := H7
        exact H7'.ordT 4 [1, 2, 3, 0]
      · intro h11 K4
        -- markD, seqP, b3, b1, roS, tabP, b0, marks, old
        have hfl : atL l x.2.1 + (fromL l x.2.1).length = l.length := by
          have := atL_le l x.2.1
          rw [← drop_atL, List.length_drop]
          omega
        rw [hfl] at K4
        refine ⟨.inl rfl, fun _ => ?_, fun e => by cases e⟩
        refine LdV (v := .int .i64 (l.length : Int)) (K4.mv 2).get rfl ?_
        rw [DI_int]
        refine LdV (v := .slice ma l.length mc) (K4.mv 3).get rfl ?_
        rw [DSl_slice, show (((l.length : Nat) : Int) != (l.length : Int)) = false from by simp, cond_false]
        refine LdV (v := .slice ma l.length mc) (K4.mv 3).get rfl ?_
        rw [DSl_slice]
        have K5 : sat (stS bt b1 b0 l ma mc (h10.size :: ds) h) h11 := ((marks_cons (K4.ordT 8 [0, 7, 5, 3, 4, 6])).ordT 5 [1, 2, 3, 4, 0])
        refine (F19_S (by omega) K5).mono ?_
        rintro v h12 ⟨rfl, HS⟩
        rw [DB_bool, Bool.not_true, cond_false, wi]
        exact ⟨⟨i + 1, bt, l, ma, mc, rfl, by omega, U, by omega, HS⟩, hme⟩
  rw [show (x.1 == 3) = false from by simpa using k3, cond_false]
  by_cases k4 : x.1 = 4
  · rw [k4, show ((4 : Int) == 4) = true from rfl, cond_true]
    refine (F18_spec (J.mv 1)).mono ?_
    rintro v h12 ⟨bt2, rfl, J1⟩
    show DP (.pointer (some ⟨bt2, 0, none⟩)) _
    rw [DP_pointer]
    -- tabP2, tabP, b2, b1, roS, b0, marks, old
    refine LdV (v := .slice ma l.length mc) (J1.mv 3).get rfl ?_
    rw [DSl_slice]
    refine (F19_S (by omega) (J1.ordT 7 [0, 3, 4, 5, 6])).mono ?_
    rintro v h15 ⟨rfl, HS⟩
    rw [DB_bool, Bool.not_true, cond_false, wi]
    exact ⟨⟨i + 1, bt2, _, ma, mc, rfl, by omega, U, by omega, HS⟩, hme⟩
  rw [show (x.1 == 4) = false from by simpa using k4, cond_false]
  by_cases k5 : x.1 = 5
  · rw [k5, show ((5 : Int) == 5) = true from rfl, cond_true]
    refine (F18_spec (J.mv 1)).mono ?_
    rintro v h12 ⟨bt2, rfl, J1⟩
    show DP (.pointer (some ⟨bt2, 0, none⟩)) _
    rw [DP_pointer]
    -- tabP2, tabP, b2, b1, roS, b0, marks, old
    refine LdC (v := .string x.2.1) (J1.mv 2) rfl ?_
    rw [DS_string]
    refine LdC (v := .string x.2.2) (J1.mv 2) rfl ?_
    rw [DS_string]
    refine (F13_spec (x := x.2.2) J1).mono ?_
    rintro v h13 ⟨rfl, J2⟩
    refine ⟨rfl, ?_⟩
    refine (F15_spec J2).mono ?_
    rintro v h14 ⟨rfl, J3⟩
    rw [DB_bool]
    refine LdV (v := .slice ma l.length mc) (J3.mv 3).get rfl ?_
    rw [DSl_slice]
    refine (F19_S (by omega) (J3.ordT 7 [1, 3, 4, 5, 6])).mono ?_
    rintro v h15 ⟨rfl, HS⟩
    rw [DB_bool, Bool.not_true, cond_false, wi]
    exact ⟨⟨i + 1, bt, _, ma, mc, rfl, by omega, U, by omega, HS⟩, hme⟩
  rw [show (x.1 == 5) = false from by simpa using k5, cond_false]
  refine LdV (v := .slice ma l.length mc) (J.mv 2).get rfl ?_
  rw [DSl_slice]
  refine (F19_S (by omega) J.drop).mono ?_
  rintro v h15 ⟨rfl, HS⟩
  rw [DB_bool, Bool.not_true, cond_false, wi]
  exact ⟨⟨i + 1, bt, _, ma, mc, rfl, by omega, U, by omega, HS⟩, hme⟩

end Go.Proofs.Ytfpdejkcjijmmaa.TS
