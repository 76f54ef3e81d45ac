/- PlacePlays (seat Z). -/
import Derived.Test.YticjjdhaikbdaaaGreatPpPz3
namespace Go.Proofs.YticjjdhaikbdaaaGreat
open Go Go.RowKit
set_option linter.unusedVariables false
set_option linter.unusedSimpArgs false

abbrev ActV.arr (y : ActV) : Array Value := #[.int .i64 y.k, .string y.dir, .string y.name, .string y.b, .int .i64 y.n, .int .u8 y.turn, .slice y.pa y.pl y.pc]
theorem one_act {h : Heap} {F : List HProp} {b : Nat} {e : TypeId} {y : ActV} (H : sat (pt b (.cells y.arr e (0, 0)) :: F) h) (hy : ActOk h y) : ActsIn h (some ⟨b, 0, none⟩) [y] := by
  intro i x hx
  cases i with
  | succ i => simp at hx
  | zero =>
    simp only [List.getElem?_cons_zero, Option.some.injEq] at hx
    subst hx
    refine ⟨hy, _, rfl, fun j v hj => ?_⟩
    rw [Nat.zero_mul, Nat.zero_add, cell_of_pt H.get, ← Array.getElem?_toList]
    exact hj
theorem ActOk.old {h h' : Heap} {F : List HProp} {y : ActV} (h1 : ActOk h y) (hs : sat (old h :: F) h') : ActOk h' y := by
  obtain ⟨ps, hr, h2, h3⟩ := h1.picks
  exact ⟨h1.k, h1.n, h1.turn, h1.dir, h1.name, h1.b, ps, hr.old hs, h2, h3⟩
theorem PlacePlays_law {room : Nat} {a : Option Addr} {l c : Nat} {acts : List PAct} (h : Heap) (hroom : room < 65536) (HA : PActsIn h a 1 acts) (hl : acts.length = l) (hm : l ≤ maxLen) : CallsH Tryz.prog 3 [.int .u16 (room : Int), .slice a l c] h (Good h) := by
  apply F3_ok
  unfold F3
  refine (F9_spec (sat_old h)).mono ?_
  rintro v h0 ⟨rfl, H0⟩
  rw [DB_bool, Bool.not_true, cond_false, IntWalk.i64_in (room : Int) (by omega)]
  refine (F10_spec (room := room) H0 (by omega)).mono ?_
  rintro v h1 ⟨f, rfl, H1⟩
  refine ⟨some ⟨f, 0, none⟩, 0, rfl, ?_⟩
  refine (F11_spec (room := room) H1 (by omega)).mono ?_
  rintro v h2 ⟨m, rfl, H2⟩
  refine ⟨some ⟨m, 0, none⟩, 0, rfl, ?_⟩
  rw [show ((0 : Int) != 0) = false from rfl, cond_false, cond_false]
  refine LoopH.upto l (fun i (s : Int) hh => s = (i : Int) ∧ i ≤ l ∧ i ≤ 100 ∧ ∃ A : AF.FS, A.WF ∧ A.steps ≤ 6000 * i ∧ A.files.length ≤ 6000 * i ∧ sat (fsP f A :: refP m A :: [old h]) hh) (fun s => ((l : Int) - s).toNat)
    (by rintro i s hh ⟨rfl, hi, _⟩; exact ⟨hi, by omega⟩) ⟨rfl, Nat.zero_le _, Nat.zero_le _, _, new_wf (by omega), Nat.le_refl _, Nat.le_refl _, H2.mv 1⟩ ?_ ?_
  · rintro i s h4 again hlt ⟨rfl, hi, h100, A, W, hst, hfl, H4⟩ hagain
    rw [decide_eq_true (show ((i : Int) < (l : Int)) by omega), cond_true]
    rcases Nat.lt_or_ge i 100 with h1c | h1c
    · rw [decide_eq_true (show ((i : Int) < 100) by omega), cond_true]
      obtain ⟨⟨zs, y⟩, hx⟩ : ∃ x, acts[i]? = some x := ⟨_, List.getElem?_eq_getElem (by omega)⟩
      have HA4 : PActsIn h4 a 1 acts := HA.old (H4.mv 2)
      obtain ⟨hok, _⟩ := HA i _ hx
      obtain ⟨k, rfl⟩ : ∃ k, zs = [k] := List.length_eq_one_iff.1 hok.len
      have hy : ActOk h y := hok.act
      refine HA4.at hl hx fun ba hba hc => ?_
      have hc' : ∀ (j : Nat) (v : Value), y.cells[j]? = some v → cellAt h4 (((ba.add (i * (1 + 7))).add 1).add j) = some v := by
        intro j v hj
        rw [addr_add_add]
        exact hc (1 + j) v (by rw [Nat.add_comm]; exact hj)
      refine ⟨_, hc' 0 _ rfl, _, hc' 1 _ rfl, _, hc' 2 _ rfl, _, hc' 3 _ rfl, _, hc' 4 _ rfl, _, hc' 5 _ rfl, _, hc' 6 _ rfl, ?_⟩
      refine ⟨y.k, y.dir, y.name, y.b, y.n, y.turn, y.pa, y.pl, y.pc, rfl, ?_⟩
      refine Al_sat H4 fun b0 h5 H5 => ?_
      refine StCC H5 (show (0 : Nat) < 7 by decide) rfl fun h6 H6 => StCC H6 (show (1 : Nat) < 7 by decide) rfl fun h7 H7 => StCC H7 (show (2 : Nat) < 7 by decide) rfl fun h8 H8 => StCC H8 (show (3 : Nat) < 7 by decide) rfl fun h9 H9 =>
        StCC H9 (show (4 : Nat) < 7 by decide) rfl fun h10 H10 => StCC H10 (show (5 : Nat) < 7 by decide) rfl fun h11 H11 => StCC H11 (show (6 : Nat) < 7 by decide) rfl fun h12 H12 => ?_
      have HB : sat (pt b0 (.cells y.arr 34 (0, 0)) :: fsP f A :: refP m A :: [old h]) h12 := H12
      clear H5 H6 H7 H8 H9 H10 H11 H12
      refine LdC (v := .int .i64 y.k) HB rfl (LdC (v := .string y.dir) HB rfl (LdC (v := .string y.name) HB rfl (LdC (v := .string y.b) HB rfl (LdC (v := .int .i64 y.n) HB rfl (LdC (v := .int .u8 y.turn) HB rfl (LdC (v := .slice y.pa y.pl y.pc) HB rfl ?_))))))
      refine ⟨y.k, y.dir, y.name, y.b, y.n, y.turn, y.pa, y.pl, y.pc, rfl, ?_⟩
      refine Al_sat HB fun b1 h13 H13 => ?_
      have H13' : sat (pt b1 (.cells y.arr 34 (0, 0)) :: pt b0 (.cells y.arr 34 (0, 0)) :: fsP f A :: refP m A :: [old h]) h13 := H13
      clear H13
      refine (F12_spec (one_act H13' (hy.old (H13'.mv 4))) (l := 1) rfl (by decide)).mono ?_
      rintro v h14 ⟨rfl, z, rfl, hz⟩
      rw [DB_bool]
      cases z with
      | true => exact good_of (H13'.mv 4)
      | false =>
      rw [cond_false]
      obtain ⟨_, hlight⟩ := hz rfl
      have hL := hlight y (List.mem_singleton.2 rfl)
      have hLd := hL.dir
      have hLn := hL.name
      have hLb := hL.b
      -- b1, b0, fsP, refP, old
      have HA14 : PActsIn h14 a 1 acts := HA.old (H13'.mv 4)
      refine HA14.at hl hx fun ba2 hba2 hc2 => ⟨_, hc2 0 _ rfl, ?_⟩
      show DI .i64 (.int .i64 k) _
      rw [DI_int]
      have shows : ∀ {A' : AF.FS} {h' : Heap}, A'.WF → AF.Gr 6000 A A' → sat (fsP f A' :: refP m A' :: [old h]) h' →
          CallsH Tryz.prog 26 [ptrV f, ptrV m] h' fun r h_18 => DB r fun x38 => (bif !x38 then Good h (.bool false) h_18 else again (IntKind.wrap .i64 ((i : Int) + 1)) h_18) := by
        intro A' h' W' G' H'
        refine (F26_spec W' H').mono ?_
        rintro v h2 ⟨rfl, H2⟩
        rw [DB_bool, Bool.not_true, cond_false, wrap64_succ (by unfold maxLen at hm; omega)]
        have g1 := G'.1
        have g2 := G'.2
        exact hagain _ _ ⟨rfl, hlt, h1c, A', W', by omega, by omega, H2⟩
      have hmb : y.b.size ≤ maxLen := hy.b
      have hbl := sb_length y.b
      by_cases k0 : k = 0
      · rw [keq k0, cond_true]
        have HC := H13'.mv 1
        refine LdStr HC rfl (LdStr HC rfl (LdStr HC rfl (LdStr HC rfl (LdStr HC rfl (LdStr HC rfl ?_)))))
        refine bytesOfB (by kernel_rfl) u31 (by kernel_rfl) hmb H13' fun xb xc h15 H15 => ?_
        rw [DSl_slice]
        -- own, b1, b0, fsP, refP, old
        have HC := H15.mv 2
        refine ⟨rfl, rfl, LdStr HC rfl rfl, rfl, LdStr HC rfl rfl, rfl, rfl, LdStr HC rfl rfl, rfl, LdStr HC rfl rfl, rfl, LdStr HC rfl rfl, ?_⟩
        have T := AF.put_tame y.dir y.name y.b W
        refine (F13_spec (bs := sb y.b) W (by omega) (by omega) (by omega) (F := ownS 5 1 (some ⟨xb, 0, none⟩) y.b.size xc ((sb y.b).map nv) :: pt b1 (.cells y.arr 34 (0, 0)) :: pt b0 (.cells y.arr 34 (0, 0)) :: refP m A :: [old h]) (fun h' hh => ownS_read hh) (sb_B8 _) hbl (by omega) (H15.mv 3)).mono ?_
        rintro v h16 ⟨rfl, W', _, H16⟩
        rw [DI_int]
        -- fsP, own, b1, b0, refP, old
        have HC := H16.mv 3
        refine ⟨rfl, rfl, LdStr HC rfl rfl, rfl, LdStr HC rfl rfl, rfl, LdStr HC rfl rfl, ?_⟩
        refine (F14_spec W (by omega) (by omega) (by omega) (H16.mv 4)).mono ?_
        rintro v h17 ⟨rfl, H17⟩
        rw [DI_int, bneN, decide_eq_false (by simp), cond_false]
        exact shows W' (T.2.le (by decide)) (H17.ordT 6 [1, 0, 5])
      rw [kne k0, cond_false]
      by_cases k1 : k = 1
      · rw [keq k1, cond_true]
        have HC := H13'.mv 1
        refine LdStr HC rfl (LdStr HC rfl (LdStr HC rfl (LdStr HC rfl (LdStr HC rfl (LdStr HC rfl ?_)))))
        refine bytesOfB (by kernel_rfl) u31 (by kernel_rfl) hmb H13' fun xb xc h15 H15 => ?_
        rw [DSl_slice]
        have HC := H15.mv 2
        refine ⟨rfl, rfl, LdStr HC rfl rfl, rfl, LdStr HC rfl rfl, rfl, rfl, LdStr HC rfl rfl, rfl, LdStr HC rfl rfl, rfl, LdStr HC rfl rfl, ?_⟩
        have T := AF.raw_tame y.dir y.name y.b W
        refine (F15_spec (bs := sb y.b) W (by omega) (by omega) (by omega) (F := ownS 5 1 (some ⟨xb, 0, none⟩) y.b.size xc ((sb y.b).map nv) :: pt b1 (.cells y.arr 34 (0, 0)) :: pt b0 (.cells y.arr 34 (0, 0)) :: refP m A :: [old h]) (fun h' hh => ownS_read hh) (sb_B8 _) hbl (by omega) (H15.mv 3)).mono ?_
        rintro v h16 ⟨rfl, W', _, H16⟩
        rw [DI_int]
        have HC := H16.mv 3
        refine ⟨rfl, rfl, LdStr HC rfl rfl, rfl, LdStr HC rfl rfl, rfl, LdStr HC rfl rfl, ?_⟩
        refine (F16_spec W (by omega) (by omega) (by omega) (H16.mv 4)).mono ?_
        rintro v h17 ⟨rfl, H17⟩
        rw [DI_int, bneN, decide_eq_false (by simp), cond_false]
        exact shows W' (T.2.le (by decide)) (H17.ordT 6 [1, 0, 5])
      rw [kne k1, cond_false]
      by_cases k2 : k = 2
      · rw [keq k2, cond_true]
        have HC := H13'.mv 1
        refine LdStr HC rfl (LdStr HC rfl ?_)
        refine (F17_spec W (by omega) (by omega) (H13'.mv 2)).mono ?_
        rintro v h15 (⟨bs, xa, xc, hg, hb8, _, rfl, H15⟩ | ⟨e, hg, e0, rfl, H15⟩)
        · refine ⟨xa, bs.length, xc, 0, rfl, ?_⟩
          -- own, fsP, b1, b0, refP, old
          have HC := H15.mv 3
          refine LdStr HC rfl (LdStr HC rfl ?_)
          refine (F18_spec W (H15.mv 4)).mono ?_
          rintro v h16 ⟨rfl, H16⟩
          rw [hg]
          refine ⟨_, _, rfl, ?_⟩
          rw [show ((0 : Int) != 0) = false from rfl, cond_false]
          refine ⟨ofN bs, bytesIn_of (ownS_read (H16.mv 1)) rfl hb8, ?_⟩
          rw [strEq_dec, decide_eq_true rfl, Bool.not_true, cond_false]
          exact shows W (AF.Gr.same _ A) (H16.ordT 6 [2, 0, 5])
        · refine ⟨none, 0, 0, (e : Int), rfl, ?_⟩
          -- fsP, b1, b0, refP, old
          have HC := H15.mv 2
          refine LdStr HC rfl (LdStr HC rfl ?_)
          refine (F18_spec W (H15.mv 3)).mono ?_
          rintro v h16 ⟨rfl, H16⟩
          rw [hg]
          refine ⟨_, _, rfl, ?_⟩
          rw [bneN, decide_eq_false (by simp), cond_false]
          refine ⟨.empty, rfl, ?_⟩
          rw [strEq_dec, decide_eq_true rfl, Bool.not_true, cond_false]
          exact shows W (AF.Gr.same _ A) (H16.ordT 5 [1, 0, 4])
      rw [kne k2, cond_false]
      by_cases k3 : k = 3
      · rw [keq k3, cond_true]
        have HC := H13'.mv 1
        refine LdStr HC rfl ?_
        have T := AF.clean_tame y.dir W
        refine (F19_spec W (by omega) (by omega) (H13'.mv 2)).mono ?_
        rintro v h15 ⟨rfl, _, W', _, H15⟩
        -- fsP, b1, b0, refP, old
        have HC := H15.mv 2
        have tail : ∀ {n e : Int}, cleanV (A.clean y.dir).2 = .tuple #[.int .i64 n, .int .i64 e] →
            Ld h15 ((Addr.mk b0 0 none).add 1) fun v34 => DS v34 fun x69 => CallsH Tryz.prog 20 [ptrV m, .string x69] h15 fun r19 h_27 => ∃ (x70 : Int), ∃ (x71 : Int), r19 = .tuple #[.int .i64 x70, .int .i64 x71] ∧
              (bif e != x71 then Good h (.bool false) h_27 else (bif n != x70 then Good h (.bool false) h_27 else
                CallsH Tryz.prog 26 [ptrV f, ptrV m] h_27 fun r h_18 => DB r fun x38 => (bif !x38 then Good h (.bool false) h_18 else again (IntKind.wrap .i64 ((i : Int) + 1)) h_18))) := by
          intro n e he
          refine LdStr HC rfl ?_
          refine (F20_spec W (by omega) (by omega) (H15.mv 3)).mono ?_
          rintro v h16 ⟨rfl, _, H16⟩
          refine ⟨n, e, he, ?_⟩
          rw [show (e != e) = false by rw [bne_self_eq_false], cond_false, show (n != n) = false by rw [bne_self_eq_false], cond_false]
          exact shows W' (T.2.le (by decide)) (H16.ordT 5 [1, 0, 4])
        cases hr : (A.clean y.dir).2 with
        | ok n => exact ⟨_, _, rfl, tail (by rw [hr]; rfl)⟩
        | error e => exact ⟨_, _, rfl, tail (by rw [hr]; rfl)⟩
      rw [kne k3, cond_false]
      by_cases k4 : k = 4
      · rw [keq k4, cond_true]
        have HC := H13'.mv 1
        refine LdStr HC rfl ?_
        have T := AF.prep_tame y.dir W
        refine (F21_spec W (by omega) (by omega) (H13'.mv 2)).mono ?_
        rintro v h15 ⟨W', _, ⟨ks, xa, xc, hg, _, hkl, rfl, H15⟩ | ⟨e, hg, e0, rfl, H15⟩⟩
        · refine ⟨xa, ks.length, xc, 0, rfl, ?_⟩
          -- own, fsP, b1, b0, refP, old
          have HC := H15.mv 3
          refine LdStr HC rfl ?_
          refine (F22_spec W (by omega) (by omega) (H15.mv 4)).mono ?_
          rintro v h16 (⟨ks2, xa2, xc2, hg2, rfl, H16⟩ | ⟨e, hg2, _, rfl, H16⟩)
          · rw [hg] at hg2
            cases hg2
            refine ⟨xa2, ks.length, xc2, 0, rfl, ?_⟩
            rw [show ((0 : Int) != 0) = false from rfl, cond_false]
            -- own2, refP, own, fsP, b1, b0, old
            refine (F23_spec (ownS_read (H16.mv 2)) (ownS_read H16) rfl (by omega)).mono ?_
            rintro v h17 ⟨rfl, rfl⟩
            rw [DB_bool, Bool.not_true, cond_false]
            exact shows W' (T.2.le (by decide)) (H16.ordT 7 [3, 1, 6])
          · rw [hg] at hg2
            cases hg2
        · refine ⟨none, 0, 0, (e : Int), rfl, ?_⟩
          have HC := H15.mv 2
          refine LdStr HC rfl ?_
          refine (F22_spec W (by omega) (by omega) (H15.mv 3)).mono ?_
          rintro v h16 (⟨ks2, xa2, xc2, hg2, rfl, H16⟩ | ⟨e2, hg2, _, rfl, H16⟩)
          · rw [hg] at hg2
            cases hg2
          · rw [hg] at hg2
            cases hg2
            refine ⟨none, 0, 0, (e : Int), rfl, ?_⟩
            rw [bneN, decide_eq_false (by simp), cond_false]
            refine (F23_spec (ss := []) (l := 0) (a := none) (b := none) rfl rfl rfl (by omega)).mono ?_
            rintro v h17 ⟨rfl, rfl⟩
            rw [DB_bool, Bool.not_true, cond_false]
            exact shows W' (T.2.le (by decide)) (H16.ordT 5 [1, 0, 4])
      rw [kne k4, cond_false]
      have HC := H13'.mv 1
      obtain ⟨turn, hturn⟩ : ∃ t : Nat, y.turn = (t : Int) := ⟨y.turn.toNat, by have := hy.turn.1; omega⟩
      have ht : turn < 256 := by have := hy.turn.2; omega
      obtain ⟨ps, hpr, hpl, hpc, hpm⟩ := hy.picks
      refine LdC (v := .int .i64 y.k) HC rfl (LdC (v := .string y.dir) HC rfl (LdC (v := .string y.name) HC rfl (LdC (v := .string y.b) HC rfl (LdC (v := .int .i64 y.n) HC rfl (LdC (v := .int .u8 y.turn) HC rfl (LdC (v := .slice y.pa y.pl y.pc) HC rfl ?_))))))
      refine ⟨y.k, y.dir, y.name, y.b, y.n, y.turn, y.pa, y.pl, y.pc, rfl, ?_⟩
      refine LdC (v := .int .i64 y.k) HC rfl (LdC (v := .string y.dir) HC rfl (LdC (v := .string y.name) HC rfl (LdC (v := .string y.b) HC rfl (LdC (v := .int .i64 y.n) HC rfl (LdC (v := .int .u8 y.turn) HC rfl (LdC (v := .slice y.pa y.pl y.pc) HC rfl ?_))))))
      refine ⟨y.k, y.dir, y.name, y.b, y.n, y.turn, y.pa, y.pl, y.pc, rfl, ?_⟩
      rw [hturn]
      -- fsP, b1, b0, refP, old
      have H14 := H13'.mv 2
      have hp1 : Pks [pt b1 (.cells y.arr 34 (0, 0)), pt b0 (.cells y.arr 34 (0, 0)), refP m A, old h] ps y.pa y.pl y.pc := ⟨hpl, hpc, fun h' hh => hpr.old (hh.mv 3)⟩
      refine (F24_spec (k := y.k) (dir := y.dir) (name := y.name) (b := y.b) (n := y.n) (turn := turn) W (by omega) (by omega) (by omega) (by omega) ht hy.n.2 hp1 H14).mono ?_
      rintro v h15 ⟨rfl, H15⟩
      rw [DI_int]
      have HC := H15.mv 2
      rw [← hturn]
      refine ⟨rfl, LdC (v := .int .i64 y.k) HC rfl (LdC (v := .string y.dir) HC rfl (LdC (v := .string y.name) HC rfl (LdC (v := .string y.b) HC rfl (LdC (v := .int .i64 y.n) HC rfl (LdC (v := .int .u8 y.turn) HC rfl (LdC (v := .slice y.pa y.pl y.pc) HC rfl ⟨y.k, y.dir, y.name, y.b, y.n, y.turn, y.pa, y.pl, y.pc, rfl, rfl⟩)))))), ?_⟩
      rw [hturn]
      have hp2 : Pks [fsP f (A.act y.k y.dir y.name y.b y.n turn ps).1, pt b1 (.cells y.arr 34 (0, 0)), pt b0 (.cells y.arr 34 (0, 0)), old h] ps y.pa y.pl y.pc := ⟨hpl, hpc, fun h' hh => hpr.old (hh.mv 3)⟩
      refine (F25_spec (k := y.k) (dir := y.dir) (name := y.name) (b := y.b) (n := y.n) (turn := turn) W (by omega) (by omega) (by omega) ht hp2 (H15.mv 3)).mono ?_
      rintro v h16 ⟨rfl, H16⟩
      rw [DI_int, bneN, decide_eq_false (by simp), cond_false]
      have G1 : AF.Gr 1 A (A.act y.k y.dir y.name y.b y.n turn ps).1 := AF.Grown1.act
      exact shows (W.act hy.n.2 ht) (G1.le (by decide)) (H16.ordT 5 [1, 0, 4])
    · rw [decide_eq_false (show ¬ ((i : Int) < 100) by omega), cond_false]
      exact good_of (H4.mv 2)
  · rintro s h4 again ⟨rfl, hi, _, A, W, _, _, H4⟩
    rw [decide_eq_false (by omega), cond_false]
    exact good_of (H4.mv 2)

end Go.Proofs.YticjjdhaikbdaaaGreat
