/- MetaFolds. -/
import Derived.Test.YticjjdhaikbdaaaGreatMfMtP
namespace Go.Proofs.YticjjdhaikbdaaaGreat
open Go Go.RowKit Go.MapKept
set_option linter.unusedVariables false
set_option linter.unusedSimpArgs false
open AF (Meta copyT topT nmI Ent IdOk MInv Live Has Upd Dirc)
open Hex (digs)

theorem dAB : dA ≠ dB := by decide
section
variable {s u t n : Nat} {A A' : AF.FS} {Ma Mb M' : Meta} {Ta Tb T' : Dirc}
theorem FoldsI.start {A : AF.FS} {Ta Tb : Dirc} (Ia : MInv A ⟨dA, [], [], []⟩ Ta) (Ib : MInv A ⟨dB, [], [], []⟩ Tb) (hr : A.room = 16777216) (hu : A.used ≤ u) (hs : A.steps ≤ t) : FoldsI 0 u t A ⟨dA, [], [], []⟩ ⟨dB, [], [], []⟩ Ta Tb :=
  ⟨Ia, Ib, rfl, rfl, fun k => rfl, (fun k x h => by cases h), Nat.le_refl _, Nat.le_refl _, hr, hu, hs⟩
theorem FoldsI.fold {k m : Nat} (J : FoldsI s u t A Ma Mb Ta Tb) (I' : MInv A' M' T') (hd : M'.dir = Ma.dir) (he : M'.entries = Ma.entries) (hl : M'.S.length ≤ Ma.S.length) (up : Upd 0 k m A A' Ma.dir T') : FoldsI s (u + k) (t + m) A' M' Mb T' Tb :=
  ⟨I', J.ib.other up (by rw [J.da, J.db]; exact Ne.symm dAB), by rw [hd, J.da], J.db, fun k => by rw [J.ia.get_eq I' he, J.same], J.vals, Nat.le_trans hl J.sa, J.sb, by rw [up.room, J.room], Nat.le_trans up.used (Nat.add_le_add_right J.used _), Nat.le_trans up.steps (Nat.add_le_add_right J.steps _)⟩
theorem FoldsI.puts {A2 : AF.FS} {M2 : Meta} {T2 : Dirc} (hn : n < 32) (J : FoldsI s u t A Ma Mb Ta Tb) (I1 : MInv A' M' T') (hd1 : M'.dir = Ma.dir) (hg1 : ∀ k, M'.get k = if k = (n : Int) then some [n, n] else Ma.get k) (hl1 : M'.S.length ≤ Ma.S.length + 1) (up1 : Upd 0 10 5 A A' Ma.dir T')
    (I2 : MInv A2 M2 T2) (hd2 : M2.dir = Mb.dir) (hg2 : ∀ k, M2.get k = if k = (n : Int) then some [n, n] else Mb.get k) (hl2 : M2.S.length ≤ Mb.S.length + 1) (up2 : Upd 0 10 5 A' A2 Mb.dir T2) : FoldsI (s + 1) (u + 20) (t + 10) A2 M' M2 T' T2 :=
  ⟨I1.other up2 (by rw [hd1, J.da, J.db]; exact dAB), I2, by rw [hd1, J.da], by rw [hd2, J.db], fun k => by rw [hg1, hg2, J.same], fun k x h => by
    rw [hg2] at h
    split at h
    · rename_i hk
      cases h
      exact ⟨n, hn, hk, rfl⟩
    · exact J.vals k x h, Nat.le_trans hl1 (Nat.add_le_add_right J.sa 1), Nat.le_trans hl2 (Nat.add_le_add_right J.sb 1), by rw [up2.room, up1.room, J.room], by have := up2.used; have := up1.used; have := J.used; omega, by have := up2.steps; have := up1.steps; have := J.steps; omega⟩
theorem FoldsI.weak {s2 u2 t2 : Nat} (J : FoldsI s u t A Ma Mb Ta Tb) (h1 : s ≤ s2) (h2 : u ≤ u2) (h3 : t ≤ t2) : FoldsI s2 u2 t2 A Ma Mb Ta Tb :=
  ⟨J.ia, J.ib, J.da, J.db, J.same, J.vals, Nat.le_trans J.sa h1, Nat.le_trans J.sb h1, J.room, Nat.le_trans J.used h2, Nat.le_trans J.steps h3⟩
end
theorem tmod32 (c : Nat) : Int.tmod (c : Int) 32 = ((c % 32 : Nat) : Int) := rfl
set_option maxHeartbeats 2000000 in
theorem MetaFolds_law {ia fa : Option Addr} {il ic fl fc : Nat} {cs : List Nat} {zs : List Int} {h : Heap} (hi : RdC h ia (cs.map nv)) (hil : cs.length = il) (hf : RdC h fa (zs.map (Value.int .i16))) (hfl : zs.length = fl) :
    CallsH Tryz.prog 5 [.slice ia il ic, .slice fa fl fc] h (Good h) := by
  apply F5_ok
  unfold F5
  refine Al_sat (sat_old h) fun b0 h0 H0 => ?_
  refine (F27_spec H0).mono ?_
  rintro v h1 ⟨rfl, H1⟩
  rw [DB_bool, Bool.not_true, cond_false]
  have ends : ∀ {F' : List HProp} {h' : Heap}, sat (pt b0 (.cells #[.bool false] 4 (0, 0)) :: old h :: F') h' → StC h' ((Addr.mk b0 0 none).add 0) (.bool true) fun h2 => Ld h2 (Addr.mk b0 0 none) fun v => DB v fun r => Good h (.bool r) h2 := by
    intro F' h' H'
    refine StCC H' (by exact Nat.zero_lt_one) rfl fun h2 H2 => ?_
    exact VBo H2.get (good_of (H2.mv 1))
  by_cases hbig : 40 < il
  · rw [decide_eq_true (show (il : Int) > 40 by omega), cond_true]
    exact ends H1
  rw [decide_eq_false (show ¬ (il : Int) > 40 by omega), cond_false]
  refine (live_F10 (room := 16777216) (by decide) H1).mono ?_
  rintro v h2 ⟨fb, rfl, L0, H2⟩
  refine ⟨some ⟨fb, 0, none⟩, 0, rfl, ?_⟩
  refine (live_open (dir := dA) L0 (by decide) (by decide) rfl (by decide) H2).mono ?_
  rintro v h3 ⟨la, A1, rfl, u1, I1, H3⟩
  refine ⟨some ⟨la, 0, none⟩, 0, rfl, ?_⟩
  have r1 : A1.room = 16777216 := u1.room
  have s1 : A1.steps ≤ 0 + 1 := u1.steps
  have n1 : A1.used ≤ 0 + 0 := u1.used
  have d1 : A1.dirs.length ≤ 0 + 1 := u1.few
  refine Al_sat H3 fun b1 h4 H4 => ?_
  refine StCC H4 (by exact Nat.zero_lt_one) rfl fun h5 H5 => ?_
  -- b1, la, fs, b0, old
  refine (live_open (dir := dB) I1.live (by omega) (by decide) (u1.gone _ (Ne.symm dAB) rfl) (by omega) (H5.mv 2)).mono ?_
  rintro v h6 ⟨lb, A2, rfl, u2, I2, H6⟩
  refine ⟨some ⟨lb, 0, none⟩, 0, rfl, ?_⟩
  rw [show ((0 : Int) != 0) = false from rfl, cond_false, cond_false]
  have J0 : FoldsI 0 0 2 A2 ⟨dA, [], [], []⟩ ⟨dB, [], [], []⟩ [] [] := FoldsI.start (I1.other u2 dAB) I2 (by rw [u2.room, r1]) (by have := u2.used; omega) (by have := u2.steps; omega)
  -- lb, fs, b1, la, b0, old
  have hget : ∀ {F' : List HProp} {h' : Heap} {i c : Nat} {K : Int → Prop}, sat (old h :: F') h' → cs[i]? = some c → K (c : Int) → IdxA ia il (i : Int) 1 fun a => Ld h' a fun v => DI .u8 v K := by
    intro F' h' i c K H' hc hK
    exact IdxA_nat (hi.old H') (by rw [List.length_map, hil]) (by rw [List.getElem?_map, hc]; rfl) fun b hb hcell => ⟨nv c, hcell, (c : Int), rfl, hK⟩
  refine LoopH.upto il (fun i (s0 : Int) h' => s0 = (i : Int) ∧ i ≤ il ∧ ∃ A Ma Mb Ta Tb l, FoldsI i (i * 2000) (2 + i * 200) A Ma Mb Ta Tb ∧ sat (pt b1 (.cells #[ptrV l] 60 (0, 0)) :: logM l fb Ma :: logM lb fb Mb :: fsP fb A :: pt b0 (.cells #[.bool false] 4 (0, 0)) :: [old h]) h') (fun s => il - s.toNat) (fun i s h' hh => ⟨hh.2.1, by rw [hh.1]; omega⟩)
    ⟨rfl, Nat.zero_le _, A2, _, _, _, _, la, J0, H6.ordT 5 [2, 3, 0, 1, 4]⟩ ?_ ?_
  · rintro i s0 h7 again hil2 ⟨rfl, _, A, Ma, Mb, Ta, Tb, l, J, H7⟩ go
    rw [decide_eq_true (show ((i : Int) < (il : Int)) by omega), cond_true]
    have tail : ∀ {A : AF.FS} {Ma Mb : Meta} {Ta Tb : Dirc} {h' : Heap}, FoldsI (i + 1) ((i + 1) * 2000) (2 + (i + 1) * 200) A Ma Mb Ta Tb → sat (pt b1 (.cells #[ptrV l] 60 (0, 0)) :: logM l fb Ma :: logM lb fb Mb :: fsP fb A :: pt b0 (.cells #[.bool false] 4 (0, 0)) :: [old h]) h' →
        (4 : Int) ≠ 0 ∧ (bif (Int.tmod (i : Int) 4 == 3) then CallsH Tryz.prog 28 [ptrV fb, .string ⟨#[97]⟩] h' fun r h2 => ∃ (x : Option Addr), ∃ (y : Int), r = .tuple #[.pointer x, .int .i64 y] ∧ StC h2 ((Addr.mk b1 0 none).add 0) (.pointer x) fun h3 =>
            (bif y != 0 then StC h3 ((Addr.mk b0 0 none).add 0) (.bool false) fun h4 => Ld h4 (Addr.mk b0 0 none) fun v => DB v fun r => Good h (.bool r) h4 else again (IntKind.wrap .i64 ((i : Int) + 1)) h3)
          else again (IntKind.wrap .i64 ((i : Int) + 1)) h') := by
      intro A Ma Mb Ta Tb h' J H'
      refine ⟨by decide, ?_⟩
      rw [wrap64_succ (by omega)]
      cases hm : (Int.tmod (i : Int) 4 == 3) with
      | false =>
        rw [cond_false]
        exact go _ _ ⟨rfl, by omega, A, Ma, Mb, Ta, Tb, l, J, H'⟩
      | true =>
        rw [cond_true]
        have hst := J.steps
        have := live_reopen J.ia (by omega) (by rw [J.da]; decide) (H'.mv 3)
        rw [J.da] at this
        refine this.mono ?_
        rintro v h2 ⟨l2, rfl, H2⟩
        -- l2, fs, b1, l, lb, b0, old
        refine ⟨some ⟨l2, 0, none⟩, 0, rfl, ?_⟩
        refine StCC (H2.mv 2) (by exact Nat.zero_lt_one) rfl fun h3 H3 => ?_
        rw [show ((0 : Int) != 0) = false from rfl, cond_false]
        -- b1, l2, fs, l, lb, b0, old
        exact go _ _ ⟨rfl, by omega, A, Ma, Mb, Ta, Tb, l2, J, H3.ordT 7 [0, 1, 4, 2, 5, 6]⟩
    obtain ⟨c, hc⟩ : ∃ x, cs[i]? = some x := ⟨_, List.getElem?_eq_getElem (by omega)⟩
    refine hget (H7.mv 5) hc ⟨by decide, ?_⟩
    refine hget (H7.mv 5) hc ⟨by decide, ?_⟩
    refine hget (H7.mv 5) hc ⟨by decide, ?_⟩
    rw [tmod32]
    have hn32 : c % 32 < 32 := Nat.mod_lt _ (by decide)
    generalize c % 32 = n at hn32
    rw [IntWalk.i64_in (n : Int) (by omega)]
    refine Al_sat H7 fun b2 h8 H8 => ?_
    refine VPt (H8.mv 1).get ?_
    have hst := J.steps
    have hus := J.used
    have hrm := J.room
    have hsa := J.sa
    have hsb := J.sb
    -- b2, b1, l, lb, fs, b0, old
    refine (live_put2 (n := n) (by omega) J.ia (fun x hx => ?_) (by omega) (by rw [J.da]; decide) (by omega) (by omega) (fun h' hh => RdCf hh rfl) (H8.ordT 7 [2, 4, 0, 1, 3, 5, 6])).mono ?_
    · rw [J.same] at hx
      obtain ⟨m, _, e1, e2⟩ := J.vals _ _ hx
      have : n = m := by omega
      rw [this]
      exact e2
    rintro v h9 ⟨A3, Ma3, Ta3, rfl, I3, hd3, hg3, hl3, u3, H9⟩
    -- l, fs, b2, b1, lb, b0, old
    rw [DI_int, show ((0 : Int) != 0) = false from rfl, cond_false]
    have u3s := u3.steps
    have u3u := u3.used
    have u3r := u3.room
    refine (live_put2 (n := n) (by omega) (J.ib.other u3 (by rw [J.da, J.db]; exact Ne.symm dAB)) (fun x hx => ?_) (by omega) (by rw [J.db]; decide) (by omega) (by omega) (fun h' hh => RdCf hh rfl) (H9.ordT 7 [4, 1, 2, 0, 3, 5, 6])).mono ?_
    · obtain ⟨m, _, e1, e2⟩ := J.vals _ _ hx
      have : n = m := by omega
      rw [this]
      exact e2
    rintro v h10 ⟨A4, Mb4, Tb4, rfl, I4, hd4, hg4, hl4, u4, H10⟩
    -- lb, fs, b2, l, b1, b0, old
    rw [DI_int, show ((0 : Int) != 0) = false from rfl, cond_false]
    have J4 := J.puts hn32 I3 hd3 hg3 hl3 u3 I4 hd4 hg4 hl4 u4
    have H11 : sat (pt b1 (.cells #[ptrV l] 60 (0, 0)) :: logM l fb Ma3 :: logM lb fb Mb4 :: fsP fb A4 :: pt b0 (.cells #[.bool false] 4 (0, 0)) :: [old h]) h10 := H10.ordT 7 [4, 3, 0, 1, 5, 6]
    by_cases hfi : i < fl
    · rw [decide_eq_true (show ((i : Int) < (fl : Int)) by omega), cond_true]
      refine VPt H11.get ?_
      obtain ⟨z, hz⟩ : ∃ x, zs[i]? = some x := ⟨_, List.getElem?_eq_getElem (by omega)⟩
      refine IdxA_nat (hf.old (H11.mv 5)) (by rw [List.length_map, hfl]) (by rw [List.getElem?_map, hz]; rfl) fun b hb hcell => ⟨_, hcell, z, rfl, ?_⟩
      have hw := J4.wt
      have s4 := J4.steps
      have r4 := J4.room
      have us4 := J4.used
      have sa4 := J4.sa
      have hFo : Ma3.Fo.length ≤ 1 := by
        rcases J4.ia.fold with ⟨e, _⟩ | ⟨_, e⟩ <;> rw [e] <;> simp
      refine (live_fold (upto := IntKind.wrap .i64 z) (w := 1024) J4.ia (by omega) (by rw [J4.da]; decide) hw (by decide) (by omega) (by omega) (H11.ordT 6 [1, 3, 0, 2, 4, 5])).mono ?_
      rintro v h12 ⟨A5, M5, T5, e, rfl, he, _, I5, hd5, hE5, hS5, u5, H12⟩
      have J5 := J4.fold I5 hd5 hE5 hS5 u5
      have J6 := J5.weak (s2 := i + 1) (u2 := (i + 1) * 2000) (t2 := 2 + (i + 1) * 200) (by omega) (by omega) (by omega)
      rw [DI_int]
      have H13 : sat (pt b1 (.cells #[ptrV l] 60 (0, 0)) :: logM l fb M5 :: logM lb fb Mb4 :: fsP fb A5 :: pt b0 (.cells #[.bool false] 4 (0, 0)) :: [old h]) h12 := H12.ordT 6 [2, 0, 3, 1, 4, 5]
      rcases he with rfl | rfl
      · rw [show (((0 : Nat) : Int) != 0) = false from rfl, cond_false]
        exact tail J6 H13
      · rw [show (((91 : Nat) : Int) != 0) = true from rfl, cond_true, show (((91 : Nat) : Int) != 91) = false from rfl, cond_false]
        exact tail J6 H13
    · rw [decide_eq_false (show ¬ ((i : Int) < (fl : Int)) by omega), cond_false]
      exact tail (J4.weak (by omega) (by omega) (by omega)) H11
  · rintro s0 h7 again ⟨rfl, _, A, Ma, Mb, Ta, Tb, l, J, H7⟩
    rw [decide_eq_false (by omega), cond_false]
    have hE := J.ent
    -- b1, l, lb, fs, b0, old
    refine VPt H7.get ?_
    refine (F30_spec (H7.mv 1)).mono ?_
    rintro v h8 ⟨rfl, H8⟩
    -- l, b1, lb, fs, b0, old
    rw [DI_int]
    refine (F30_spec (H8.mv 2)).mono ?_
    rintro v h9 ⟨rfl, H9⟩
    -- lb, l, b1, fs, b0, old
    rw [DI_int, hE, show ((Mb.entries.length : Int) != (Mb.entries.length : Int)) = false from by simp, cond_false]
    refine (F34_spec H9).mono ?_
    rintro v h10 ⟨cb, eb, rfl, H10⟩
    refine ⟨_, rfl, ?_⟩
    have hlen : Mb.entries.length < 1099511627776 := by
      have h1 := J.wt
      have h2 := AF.len_wt Ma.entries
      rw [hE] at h2 h1
      omega
    have hG : ∀ p ∈ Mb.entries, B8 p.2 ∧ p.2.length ≤ 5000 := fun p hp => (J.ib.okE p hp).2
    refine range_all Mb.entries HandA (fun _ => [logM lb fb Mb, logM l fb Ma, pt b1 (.cells #[ptrV l] 60 (0, 0)), fsP fb A, pt b0 (.cells #[.bool false] 4 (0, 0)), old h]) (fun _ => pur False) _ H10 HandA_len
      (fun yf yp yc G X Out h7 hh r f fx => F99_iter hlen (fun p hp => Nat.le_trans (hG p hp).2 (by decide)) yf yp yc G X Out h7 hh r f fx) ?_ ?_ ?_
    · intro K i x args L rec h11 Q hx H11 hgo hstop
      obtain ⟨n, x⟩ := x
      have hxm := List.mem_of_getElem? hx
      have HL := H11.get
      obtain ⟨a, c, rfl, H12⟩ := HandA_open (H11.mv 2)
      refine ⟨n, a, x.length, c, rfl, HL, ?_⟩
      -- own, L, mark, K, lb, l, b1, fs, b0, old
      have H13 := (H12.mv 1).set (rec .busy none)
      -- L, own, mark, K, lb, l, b1, ..
      refine VPt (H13.mv 6).get ?_
      have hg : Ma.get n = some x := by
        rw [← J.ia.getE, hE]
        exact mem_getT J.ib.upE hxm
      refine (live_get J.ia hg (H13.mv 5)).mono ?_
      rintro v h12 ⟨a2, c2, rfl, H14⟩
      -- own2, l, L, own, mark, K, lb, b1, fs, b0, old
      refine ⟨a2, x.length, c2, 0, rfl, ?_⟩
      rw [show ((0 : Int) != 0) = false from rfl, cond_false]
      refine ⟨ofN x, bytesIn_of (ownS_read (H14.mv 3)) rfl (hG _ hxm).1, ofN x, bytesIn_of (ownS_read H14) rfl (hG _ hxm).1, ?_⟩
      rw [show strEq (ofN x) (ofN x) = true from by rw [strEq_eq]; exact decide_eq_true rfl, Bool.not_true, cond_false]
      exact hgo h12 (H14.ordT 11 [2, 4, 5, 6, 1, 7, 8, 9, 10])
    · intro K h11 H11
      refine ⟨.inl rfl, fun _ => ?_, fun e => by cases e⟩
      -- mark, K, lb, l, b1, fs, b0, old
      refine StCC (H11.mv 6) (by exact Nat.zero_lt_one) rfl fun h12 H12 => ?_
      refine ⟨(H12.mv 1).get, ?_⟩
      have H13 := (H12.mv 1).set (.deferred none)
      exact VBo (H13.mv 1).get (good_of (H13.mv 7))
    · intro K j h11 H11
      exact ((sat_pur.1 (H11.mv 2)).1).elim
end Go.Proofs.YticjjdhaikbdaaaGreat
