/- FsRenames, FsSafe: the walks. -/
import Derived.Test.YticjjdhaikbdaaaFs23
namespace Go.Proofs.Yticjjdhaikbdaaa
open Go Go.RowKit Go.MapKept
set_option linter.unusedVariables false
set_option linter.unusedSimpArgs false

theorem pks_old {h : Heap} {pa : Option Addr} {pl pc : Nat} {ps : List Int} (hr : RdC h pa (ps.map iv)) (hl : ps.length = pl) (hc : pl ≤ pc) : Pks [old h] ps pa pl pc := ⟨hl, hc, fun h' hh => hr.old hh⟩
theorem fuse_mod {m k : Nat} (hk : 0 < k) (hk2 : k < 100) : IntKind.wrap .i64 (Int.tmod (m : Int) (k : Int)) = ((m % k : Nat) : Int) := by
  have := Nat.mod_lt m hk
  rw [tmod_nat, wrap64_nat (by omega)]
theorem set_fuse {A : AF.FS} {m : Nat} : A.setFuse (m : Int) = ({ A with fuse := some m }, 0) := by
  unfold AF.FS.setFuse
  rw [if_neg (by omega)]
  rfl
theorem strEq_of {s : ByteArray} {ns : List Nat} (h8 : B8 ns) : strEq (ofN ns) s = decide (ns = sb s) := by rw [strEq_eq, sb_ofN h8]
theorem FsRenames_law (e n : ByteArray) (pa : Option Addr) (pl pc m : Nat) (ps : List Int) (h : Heap) (hez : e.size ≤ 140737488355328) (hnz : n.size ≤ 140737488355328) (hr : RdC h pa (ps.map iv)) (hl : ps.length = pl) (hc : pl ≤ pc) :
    CallsH Try.prog 3 [.string e, .string n, .slice pa pl pc, .int .u8 (m : Int)] h (Good h) := by
  apply F3_ok
  unfold F3
  refine (F14_spec (sat_old h)).mono ?_
  rintro v h0 ⟨rfl, H0⟩
  rw [DB_bool, Bool.not_true, cond_false]
  have hm1 : 140737488355328 ≤ maxLen := by decide
  rw [← Int.natCast_add, wrap64_nat (by omega)]
  by_cases hbig : e.size + n.size > 4000
  · rw [decide_eq_true (show (((e.size + n.size : Nat) : Int) > 4000) by omega), cond_true]
    exact good_of H0
  rw [decide_eq_false (show ¬ (((e.size + n.size : Nat) : Int) > 4000) by omega), cond_false]
  by_cases hpl : pl > 100
  · rw [decide_eq_true (show ((pl : Int) > 100) by omega), cond_true]
    exact good_of H0
  rw [decide_eq_false (show ¬ ((pl : Int) > 100) by omega), cond_false]
  cases hne : strEq e n with
  | true => exact good_of H0
  | false =>
  rw [cond_false]
  have la := sb_length e
  have lb := sb_length n
  refine (F15_spec (room := 1048576) H0 (by omega)).mono ?_
  rintro v h1 ⟨b, rfl, H1⟩
  refine ⟨some ⟨b, 0, none⟩, 0, rfl, ?_⟩
  refine (c16 (A' := ⟨1048576, 1, none, false, [], [⟨dN, [], [], []⟩]⟩) (e := 0) rfl (new_wf (by omega)) (by decide) (by decide) H1).mono ?_
  rintro v h2 ⟨rfl, W2, H2⟩
  rw [DI_int]
  refine (c17 (A' := ⟨1048576, 2, none, false, [⟨[], 0⟩], [⟨dN, [(aN, 0)], [], [.create aN 0]⟩]⟩) (e := 0) rfl W2 (Nat.le_of_ble_eq_true rfl) (by decide) (by decide) H2).mono ?_
  rintro v h3 ⟨rfl, W3, H3⟩
  rw [DI_int]
  refine cText H3 (by omega) fun ea ec h4 H4 => ?_
  rw [DSl_slice]
  obtain ⟨A4, e4, s4, A5, e5, s5, e6⟩ := AF.to5 (sb e) (by omega)
  refine (c18 e4 W3 (Nat.le_of_ble_eq_true rfl) (by decide) (by decide) (fun h' hh => ownS_read hh) (sb_B8 _) (by omega) (by omega) (H4.mv 1)).mono ?_
  rintro v h5 ⟨rfl, W5, H5⟩
  rw [DI_int]
  refine (c19 e5 W5 (by omega) (by decide) (by decide) ((H5.mv 1).drop)).mono ?_
  rintro v h6 ⟨rfl, W6, H6⟩
  rw [DI_int]
  refine (c20 e6 W6 (by omega) (by decide) H6).mono ?_
  rintro v h7 ⟨rfl, W7, H7⟩
  rw [DI_int]
  refine ⟨by omega, ?_⟩
  rw [show (7 : Int) = ((7 : Nat) : Int) from rfl, fuse_mod (by omega) (by omega)]
  have hmq := Nat.mod_lt m (show 0 < 7 by omega)
  generalize m % 7 = k at hmq
  refine (c21 (set_fuse (m := k)) W7 (by omega) H7).mono ?_
  rintro v h8 ⟨rfl, W8, H8⟩
  rw [DI_int]
  obtain ⟨A7, A8, A9, e7, e8, e9, x7, x8, x9, s7, s8, s9, hend⟩ := AF.toR (sb e) (sb n) (by omega) k hmq
  refine (c17 x7 W8 (Nat.le_of_ble_eq_true rfl) (by decide) (by decide) H8).mono ?_
  rintro v h9 ⟨rfl, W9, H9⟩
  rw [DI_int]
  refine cText H9 (by omega) fun na nc h10 H10 => ?_
  rw [DSl_slice]
  refine (c18 x8 W9 (by omega) (by decide) (by decide) (fun h' hh => ownS_read hh) (sb_B8 _) (by omega) (by omega) (H10.mv 1)).mono ?_
  rintro v h11 ⟨rfl, W11, H11⟩
  rw [DI_int]
  refine (c19 x9 W11 (by omega) (by decide) (by decide) ((H11.mv 1).drop)).mono ?_
  rintro v h12 ⟨rfl, W12, H12⟩
  rw [DI_int]
  have tail : ∀ h14, (AF.R11 (sb e) (sb n) k).WF → sat (fsP b (AF.R11 (sb e) (sb n) k) :: [old h]) h14 →
      CallsH Try.prog 23 [.pointer (some ⟨b, 0, none⟩)] h14 fun r15 h_15 =>
            DI .i64 r15 fun was0 =>
            CallsH Try.prog 24 [.pointer (some ⟨b, 0, none⟩), .slice pa pl pc] h_15 fun r16 h_16 =>
            DI .i64 r16 fun x16 =>
            CallsH Try.prog 25 [.pointer (some ⟨b, 0, none⟩), .string ⟨#[100]⟩, .string ⟨#[97]⟩] h_16 fun r17 h_17 =>
            ∃ (x17a : Option Addr), ∃ (x17l : Nat), ∃ (x17c : Nat), ∃ (x18 : Int), r17 = .tuple #[.slice x17a x17l x17c, .int .i64 x18] ∧
            (bif (x18 : Int) != 0 then
              Good h (.bool false) h_17
            else
              ∃ bs0 : ByteArray, BytesIn h_17 x17a x17l bs0 ∧
              (bif !strEq bs0 e then
                ∃ bs1 : ByteArray, BytesIn h_17 x17a x17l bs1 ∧
                (bif !strEq bs1 n then
                  Good h (.bool false) h_17
                else
                  (bif decide ((was0 : Int) < 10) then
                    Good h (.bool true) h_17
                  else
                    ∃ bs2 : ByteArray, BytesIn h_17 x17a x17l bs2 ∧
                    Good h (.bool (strEq bs2 n)) h_17))
              else
                (bif decide ((was0 : Int) < 10) then
                  Good h (.bool true) h_17
                else
                  ∃ bs3 : ByteArray, BytesIn h_17 x17a x17l bs3 ∧
                  Good h (.bool (strEq bs3 n)) h_17))) := by
    intro h14 W14 H14
    obtain ⟨bs, hrd, hbs, hst, hten⟩ := AF.renames hmq W14 ps
    refine (F23_spec H14).mono ?_
    rintro v h15 ⟨rfl, rfl⟩
    rw [DI_int]
    refine (F24_spec W14 (pks_old hr hl hc) (by omega) H14).mono ?_
    rintro v h16 ⟨rfl, H16⟩
    rw [DI_int]
    refine (F25_spec (W14.crash ps) (dir := dN) (name := aN) (by decide) (by decide) H16).mono ?_
    rintro v h17 (⟨bs', a, c, hr', hb8, _, rfl, H17⟩ | ⟨e', hr', _⟩)
    · rw [hrd] at hr'
      cases hr'
      have hB := bytesIn_of (ownS_read H17) rfl hb8
      have hgood := good_of (H17.ord [2])
      refine ⟨a, bs.length, c, 0, rfl, ?_⟩
      rw [show ((0 : Int) != 0) = false from rfl, cond_false]
      refine ⟨ofN bs, hB, ?_⟩
      have tn : ¬ (AF.R11 (sb e) (sb n) k).steps < 10 → strEq (ofN bs) n = true := fun hn => by
        rcases hten with h1 | h1
        · exact absurd h1 hn
        · rw [strEq_of hb8, h1]
          simp
      cases hq : strEq (ofN bs) e with
      | true =>
        rw [Bool.not_true, cond_false]
        by_cases ht : (AF.R11 (sb e) (sb n) k).steps < 10
        · rw [decide_eq_true (by omega), cond_true]
          exact hgood
        · rw [decide_eq_false (by omega), cond_false]
          exact ⟨ofN bs, hB, by rw [tn ht]; exact hgood⟩
      | false =>
        rw [Bool.not_false, cond_true]
        refine ⟨ofN bs, hB, ?_⟩
        have h2 : bs = sb n := by
          rcases hbs with h1 | h1
          · rw [strEq_of hb8, h1] at hq
            simp at hq
          · exact h1
        rw [show strEq (ofN bs) n = true from by rw [strEq_of hb8, h2]; simp, Bool.not_true, cond_false]
        by_cases ht : (AF.R11 (sb e) (sb n) k).steps < 10
        · rw [decide_eq_true (by omega), cond_true]
          exact hgood
        · rw [decide_eq_false (by omega), cond_false]
          exact ⟨ofN bs, hB, by rw [tn ht]; exact hgood⟩
    · rw [hrd] at hr'
      cases hr'
  rcases hend with ⟨h9, e11, x11⟩ | ⟨h9, A10, e10, e11, x10, s10, x11⟩
  · rw [err_beq h9, cond_false]
    refine (c20 x11 W12 (by omega) (by decide) H12).mono ?_
    rintro v h14 ⟨rfl, W14, H14⟩
    rw [DI_int]
    exact tail h14 W14 H14
  · rw [h9, show (((0 : Nat) : Int) == 0) = true from rfl, cond_true]
    refine (c22 x10 W12 (by omega) (by decide) (by decide) (by decide) H12).mono ?_
    rintro v h13 ⟨rfl, W13, H13⟩
    rw [DI_int]
    refine (c20 x11 W13 (by omega) (by decide) H13).mono ?_
    rintro v h14 ⟨rfl, W14, H14⟩
    rw [DI_int]
    exact tail h14 W14 H14

/-! ### what is safe stays -/
namespace AF
/-- The state before the crash, by how many steps the fuse let through. -/
def Q9 (e n : List Nat) : Nat → FS
  | 0 => ⟨1048576, 5, some 0, true, [⟨e, e.length⟩], [⟨dN, [(aN, 0)], [(aN, 0)], []⟩]⟩
  | 1 => ⟨1048576, 6, some 0, true, [⟨e ++ n, e.length⟩], [⟨dN, [(aN, 0)], [(aN, 0)], []⟩]⟩
  | 2 => ⟨1048576, 7, some 0, true, [⟨e ++ n, e.length⟩], [⟨dN, [(bN, 0)], [(aN, 0)], [.rename aN bN]⟩]⟩
  | m + 3 => ⟨1048576, 8, some m, false, [⟨e ++ n, e.length⟩, ⟨[], 0⟩], [⟨dN, [(aN, 1), (bN, 0)], [(aN, 0)], [.rename aN bN, .create aN 1]⟩]⟩
theorem toQ (e n : List Nat) (hl : e.length + n.length ≤ 4000) (m : Nat) (hm : m < 4) : ∃ (A7 A8 : FS) (e7 e8 e9 : Nat), (S5 e (some m)).append dN aN n = (A7, e7) ∧ A7.rename dN aN bN = (A8, e8) ∧ A8.create dN aN = (Q9 e n m, e9) ∧ A7.steps ≤ 10 ∧ A8.steps ≤ 10 := by
  have ap : ∀ k, (S5 e (some (k + 1))).append dN aN n = (⟨1048576, 6, some k, false, [⟨e ++ n, e.length⟩], [⟨dN, [(aN, 0)], [(aN, 0)], []⟩]⟩, 0) := fun k => by
    rw [append_do (i := 0) (x := 0) rfl (by show e.length + n.length ≤ 16777216; omega) (by show e.length + 0 + n.length ≤ 1048576; omega)]
    rfl
  have ap0 : (S5 e (some 0)).append dN aN n = (⟨1048576, 5, some 0, true, [⟨e, e.length⟩], [⟨dN, [(aN, 0)], [(aN, 0)], []⟩]⟩, 60) := by
    rw [append_do (i := 0) (x := 0) rfl (by show e.length + n.length ≤ 16777216; omega) (by show e.length + 0 + n.length ≤ 1048576; omega)]
    rfl
  match m, hm with
  | 0, _ => exact ⟨_, _, _, _, _, ap0, rfl, rfl, Nat.le_of_ble_eq_true rfl, Nat.le_of_ble_eq_true rfl⟩
  | 1, _ => exact ⟨_, _, _, _, _, ap 0, rfl, rfl, Nat.le_of_ble_eq_true rfl, Nat.le_of_ble_eq_true rfl⟩
  | 2, _ => exact ⟨_, _, _, _, _, ap 1, rfl, rfl, Nat.le_of_ble_eq_true rfl, Nat.le_of_ble_eq_true rfl⟩
  | 3, _ => exact ⟨_, _, _, _, _, ap 2, rfl, rfl, Nat.le_of_ble_eq_true rfl, Nat.le_of_ble_eq_true rfl⟩
theorem safes_go {e n : List Nat} {f : FS} (W : f.WF) (ps : List Int) (d : Dir) (h0 : f.dirs[0]? = some d) (hd : d.name = dN) (hp : ∀ k, k ≤ d.pend.length → ∃ (l : Names) (kn : ByteArray) (x : Nat) (y : File), play d.base (d.pend.take k) = l ∧ 1 ≤ l.length ∧ l.length ≤ 2 ∧ (l.map (·.1))[l.length - 1]? = some kn ∧ of l kn = some x ∧
      f.files[x]? = some y ∧ e.length ≤ y.safe ∧ ∃ j, y.b = (e ++ n).take j) (hs : f.steps ≤ 10) :
      ∃ (ks : List ByteArray) (k : ByteArray) (bs : List Nat), (f.crash ps).list dN = .ok ks ∧ 1 ≤ ks.length ∧ ks.length ≤ 2 ∧ ks[ks.length - 1]? = some k ∧
        (f.crash ps).read dN k = .ok bs ∧ e.length ≤ bs.length ∧ bs.length ≤ (e ++ n).length ∧ bs = (e ++ n).take bs.length ∧ f.steps ≤ 10 := by
    obtain ⟨k, hk, hli, hr⟩ := crash_read W ps h0
    obtain ⟨l, kn, x, y, rfl, h1, h2, h3, hx, hy, hsafe, j, hb⟩ := hp k hk
    obtain ⟨i, i1, i2, hrd⟩ := hr kn x y hx hy
    rw [hd] at hrd hli
    have hlen : (y.b.take i).length = i := by rw [List.length_take]; omega
    refine ⟨_, kn, y.b.take i, hli, by rw [List.length_map]; exact h1, by rw [List.length_map]; exact h2, by rw [List.length_map]; exact h3, hrd, by omega, ?_, ?_, hs⟩
    · rw [hlen]
      rw [hb, List.length_take] at i2
      omega
    · rw [hlen, hb, List.take_take]
      congr 1
      rw [hb, List.length_take] at i2
      omega
theorem safes {e n : List Nat} {m : Nat} (hm : m < 4) (W : (Q9 e n m).WF) (ps : List Int) : ∃ (ks : List ByteArray) (k : ByteArray) (bs : List Nat), ((Q9 e n m).crash ps).list dN = .ok ks ∧ 1 ≤ ks.length ∧ ks.length ≤ 2 ∧ ks[ks.length - 1]? = some k ∧
    ((Q9 e n m).crash ps).read dN k = .ok bs ∧ e.length ≤ bs.length ∧ bs.length ≤ (e ++ n).length ∧ bs = (e ++ n).take bs.length ∧ (Q9 e n m).steps ≤ 10 := by
  have al : ∃ j, e = (e ++ n).take j := ⟨e.length, by simp⟩
  have al2 : ∃ j, e ++ n = (e ++ n).take j := ⟨(e ++ n).length, by rw [List.take_length]⟩
  match m, hm with
  | 0, _ => exact safes_go W ps _ rfl rfl (fun k hk => by match k, hk with | 0, _ => exact ⟨[(aN, 0)], aN, 0, _, rfl, by decide, by decide, rfl, rfl, rfl, Nat.le_refl _, al⟩) (Nat.le_of_ble_eq_true rfl)
  | 1, _ => exact safes_go W ps _ rfl rfl (fun k hk => by match k, hk with | 0, _ => exact ⟨[(aN, 0)], aN, 0, _, rfl, by decide, by decide, rfl, rfl, rfl, Nat.le_refl _, al2⟩) (Nat.le_of_ble_eq_true rfl)
  | 2, _ => exact safes_go W ps _ rfl rfl (fun k hk => by match k, hk with | 0, _ => exact ⟨[(aN, 0)], aN, 0, _, rfl, by decide, by decide, rfl, rfl, rfl, Nat.le_refl _, al2⟩ | 1, _ => exact ⟨[(bN, 0)], bN, 0, _, rfl, by decide, by decide, rfl, rfl, rfl, Nat.le_refl _, al2⟩) (Nat.le_of_ble_eq_true rfl)
  | 3, _ => exact safes_go W ps _ rfl rfl (fun k hk => by match k, hk with | 0, _ => exact ⟨[(aN, 0)], aN, 0, _, rfl, by decide, by decide, rfl, rfl, rfl, Nat.le_refl _, al2⟩ | 1, _ => exact ⟨[(bN, 0)], bN, 0, _, rfl, by decide, by decide, rfl, rfl, rfl, Nat.le_refl _, al2⟩ | 2, _ => exact ⟨[(aN, 1), (bN, 0)], bN, 0, _, rfl, by decide, by decide, rfl, rfl, rfl, Nat.le_refl _, al2⟩) (Nat.le_of_ble_eq_true rfl)
end AF
theorem right_size {s : ByteArray} (h : AF.right s = true) : s.size ≤ 32 := by
  unfold AF.right at h
  simp only [Bool.and_eq_true, decide_eq_true_eq] at h
  exact h.1.2
theorem FsSafe_law (e n : ByteArray) (pa : Option Addr) (pl pc m : Nat) (ps : List Int) (h : Heap) (hez : e.size ≤ 140737488355328) (hnz : n.size ≤ 140737488355328) (hr : RdC h pa (ps.map iv)) (hl : ps.length = pl) (hc : pl ≤ pc) :
    CallsH Try.prog 5 [.string e, .string n, .slice pa pl pc, .int .u8 (m : Int)] h (Good h) := by
  apply F5_ok
  unfold F5
  refine (F14_spec (sat_old h)).mono ?_
  rintro v h0 ⟨rfl, H0⟩
  rw [DB_bool, Bool.not_true, cond_false]
  have hm1 : 140737488355328 ≤ maxLen := by decide
  rw [← Int.natCast_add, wrap64_nat (by omega)]
  by_cases hbig : e.size + n.size > 4000
  · rw [decide_eq_true (show (((e.size + n.size : Nat) : Int) > 4000) by omega), cond_true]
    exact good_of H0
  rw [decide_eq_false (show ¬ (((e.size + n.size : Nat) : Int) > 4000) by omega), cond_false]
  by_cases hpl : pl > 100
  · rw [decide_eq_true (show ((pl : Int) > 100) by omega), cond_true]
    exact good_of H0
  rw [decide_eq_false (show ¬ ((pl : Int) > 100) by omega), cond_false]
  have la := sb_length e
  have lb := sb_length n
  refine (F15_spec (room := 1048576) H0 (by omega)).mono ?_
  rintro v h1 ⟨b, rfl, H1⟩
  refine ⟨some ⟨b, 0, none⟩, 0, rfl, ?_⟩
  refine (c16 (A' := ⟨1048576, 1, none, false, [], [⟨dN, [], [], []⟩]⟩) (e := 0) rfl (new_wf (by omega)) (by decide) (by decide) H1).mono ?_
  rintro v h2 ⟨rfl, W2, H2⟩
  rw [DI_int]
  refine (c17 (A' := ⟨1048576, 2, none, false, [⟨[], 0⟩], [⟨dN, [(aN, 0)], [], [.create aN 0]⟩]⟩) (e := 0) rfl W2 (Nat.le_of_ble_eq_true rfl) (by decide) (by decide) H2).mono ?_
  rintro v h3 ⟨rfl, W3, H3⟩
  rw [DI_int]
  refine cText H3 (by omega) fun ea ec h4 H4 => ?_
  rw [DSl_slice]
  obtain ⟨A4, e4, s4, A5, e5, s5, e6⟩ := AF.to5 (sb e) (by omega)
  refine (c18 e4 W3 (Nat.le_of_ble_eq_true rfl) (by decide) (by decide) (fun h' hh => ownS_read hh) (sb_B8 _) (by omega) (by omega) (H4.mv 1)).mono ?_
  rintro v h5 ⟨rfl, W5, H5⟩
  rw [DI_int]
  refine (c19 e5 W5 (by omega) (by decide) (by decide) ((H5.mv 1).drop)).mono ?_
  rintro v h6 ⟨rfl, W6, H6⟩
  rw [DI_int]
  refine (c20 e6 W6 (by omega) (by decide) H6).mono ?_
  rintro v h7 ⟨rfl, W7, H7⟩
  rw [DI_int]
  refine ⟨by omega, ?_⟩
  rw [show (4 : Int) = ((4 : Nat) : Int) from rfl, fuse_mod (by omega) (by omega)]
  have hmq := Nat.mod_lt m (show 0 < 4 by omega)
  generalize m % 4 = k at hmq
  refine (c21 (set_fuse (m := k)) W7 (by omega) H7).mono ?_
  rintro v h8 ⟨rfl, W8, H8⟩
  rw [DI_int]
  obtain ⟨A7, A8, e7, e8, e9, x7, x8, x9, s7, s8⟩ := AF.toQ (sb e) (sb n) (by omega) k hmq
  refine cText H8 (by omega) fun na nc h9 H9 => ?_
  rw [DSl_slice]
  refine (c18 x7 W8 (Nat.le_of_ble_eq_true rfl) (by decide) (by decide) (fun h' hh => ownS_read hh) (sb_B8 _) (by omega) (by omega) (H9.mv 1)).mono ?_
  rintro v h10 ⟨rfl, W10, H10⟩
  rw [DI_int]
  refine (c22 x8 W10 (by omega) (by decide) (by decide) (by decide) ((H10.mv 1).drop)).mono ?_
  rintro v h11 ⟨rfl, W11, H11⟩
  rw [DI_int]
  refine (c17 x9 W11 (by omega) (by decide) (by decide) H11).mono ?_
  rintro v h12 ⟨rfl, W12, H12⟩
  rw [DI_int]
  obtain ⟨ks, kn, bs, hli, hk1, hk2, hkn, hrd, hb1, hb2, hb3, hst⟩ := AF.safes hmq W12 ps
  refine (F24_spec W12 (pks_old hr hl hc) (by omega) H12).mono ?_
  rintro v h13 ⟨rfl, H13⟩
  rw [DI_int, show ((0 : Int) != 0) = false from rfl, cond_false]
  have W13 := W12.crash ps
  refine (F30_spec W13 (dir := dN) (by decide) H13).mono ?_
  rintro v h14 (⟨ks', a, c, hl', hright, _, rfl, H14⟩ | ⟨e', hl', _⟩)
  · rw [hli] at hl'
    cases hl'
    refine ⟨a, ks.length, c, 0, rfl, ?_⟩
    rw [show ((0 : Int) != 0) = false from rfl, cond_false, decide_eq_false (by omega), cond_false, decide_eq_false (by omega), cond_false]
    have w1 : IntKind.wrap .i64 ((ks.length : Int) - 1) = ((ks.length - 1 : Nat) : Int) := by
      rw [IntWalk.i64_in _ (by omega)]
      omega
    rw [w1]
    refine IdxA_nat (v := .string kn) (ownS_read H14) (by rw [List.length_map]) (by rw [List.getElem?_map, hkn]; rfl) fun ba hba hc2 => ⟨_, hc2, ?_⟩
    show DS (.string kn) _
    rw [DS_string]
    have hkr := right_size (hright kn (List.mem_of_getElem? hkn))
    refine (F25_spec W13 (dir := dN) (name := kn) (by decide) (by omega) (H14.mv 1)).mono ?_
    rintro v h15 (⟨bs', a2, c2, hr', hb8, _, rfl, H15⟩ | ⟨e', hr', _⟩)
    · rw [hrd] at hr'
      cases hr'
      refine ⟨a2, bs.length, c2, 0, rfl, by omega, ?_⟩
      have lab : (e ++ n).size = (sb e ++ sb n).length := by rw [← sb_append, sb_length]
      rw [show ((0 : Int) == 0) = true from rfl, cond_true, decide_eq_true (by omega), cond_true, decide_eq_true (by omega), cond_true]
      refine ⟨ofN bs, bytesIn_of (ownS_read H15) rfl hb8, by omega, by omega, by omega, ?_⟩
      have hse : strEq (ofN bs) ((e ++ n).extract (0 : Int).toNat ((bs.length : Int)).toNat) = true := by
        rw [strEq_of hb8, sb_extract, sb_append]
        simp only [Int.toNat_zero, Int.toNat_natCast, List.drop_zero, Nat.sub_zero]
        exact decide_eq_true hb3
      show bif strEq (ofN bs) ((e ++ n).extract (0 : Int).toNat ((bs.length : Int)).toNat) then _ else _
      rw [hse, cond_true]
      refine ⟨.bool true, (F32_spec (H15.mv 1)).mono ?_, ?_⟩
      · rintro v h16 ⟨rfl, rfl⟩
        exact ⟨rfl, rfl⟩
      · rw [DB_bool]
        exact good_of (H15.ord [3])
    · rw [hrd] at hr'
      cases hr'
  · rw [hli] at hl'
    cases hl'

end Go.Proofs.Yticjjdhaikbdaaa
