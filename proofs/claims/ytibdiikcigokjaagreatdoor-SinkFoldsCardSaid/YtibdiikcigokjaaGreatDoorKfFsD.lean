/- Append, Sync, SyncDir. Rename, Remove, Read, List, Dirs, and what is told at once. Crash. Crash: the calls themselves. -/
import Derived.Test.YtibdiikcigokjaaGreatDoorKfFsC
import Derived.Test.YtibdiikcigokjaaGreatDoorKfFsA

namespace Go.Proofs.YtibdiikcigokjaaGreatDoor
open Go Go.RowKit Go.MapKept
set_option linter.unusedVariables false
set_option linter.unusedSimpArgs false

theorem u31 : Tryz.prog.underlying 85 = some (.slice 5) := by kernel_rfl
theorem src31 : srcTy Tryz.prog 85 = true := by kernel_rfl
theorem inf5 : infoOk Tryz.prog 5 1 = true := by kernel_rfl
def fileC (a : Option Addr) (l c s : Nat) : Obj := .cells #[.slice a l c, .int .i64 (s : Int)] 141 (0, 0)
def fileR (xbs : List Nat) (fs : List AF.File) (x : Nat) : HProp := butP fileP fs xbs x
section
variable {b : Nat} {A : AF.FS} {q : FsQ} {F : List HProp} {h : Heap}
theorem file_out {xbs : List Nat} {fs : List AF.File} {x : Nat} {y : AF.File} {xb : Nat} (H : sat (filesP xbs fs :: F) h) (hx : fs[x]? = some y) (hb : xbs[x]? = some xb) :
    ∃ (a : Option Addr) (c : Nat), sat (pt xb (fileC a y.b.length c y.safe) :: ownS 5 1 a y.b.length c (y.b.map nv) :: fileR xbs fs x :: F) h := by
  obtain ⟨r, H2⟩ := sat_exi.1 (many_out H hx hb)
  exact ⟨r.1, r.2, H2.open⟩
theorem file_in {xbs : List Nat} {fs : List AF.File} {x : Nat} {y y' : AF.File} {xb c : Nat} {a : Option Addr} (hx : fs[x]? = some y') (hb : xbs[x]? = some xb)
    (H : sat (pt xb (fileC a y.b.length c y.safe) :: ownS 5 1 a y.b.length c (y.b.map nv) :: fileR xbs fs x :: F) h) : sat (filesP xbs (fs.set x y) :: F) h := by
  refine many_in hb (List.getElem?_eq_some_iff.1 hx).1 (sat_exi.2 ⟨(a, c), ?_⟩)
  exact sat.shut (m := [pt xb (fileC a y.b.length c y.safe), ownS 5 1 a y.b.length c (y.b.map nv)]) H
theorem fsQ_file (hq : fsQ A q) (x : Nat) (g : AF.File → AF.File) : fsQ (A.setFile x g) q := fsQ_of hq rfl (List.length_modify ..)
theorem used_sync (W : A.WF) {x : Nat} {g : AF.File → AF.File} (hg : ∀ y, (g y).b = y.b) : (A.setFile x g).used = A.used := by
  unfold AF.FS.used
  congr 1
  apply List.map_congr_left
  intro y hy
  rw [AF.X_setFile]
  split
  · rw [hg]
  · rfl
theorem F80_spec {dir name : ByteArray} {ba : Option Addr} {bl bc : Nat} {bs : List Nat} (W : A.WF) (hs : A.steps < 1099511627776) (hd : dir.size < 4611686018427387904) (hn : name.size < 4611686018427387904)
    (hr : ∀ h', sat F h' → RdC h' ba (bs.map nv)) (hl : bs.length = bl) (hlb : bl < 4611686018427387904) (H : sat (fsP b A :: F) h) :
    CallsH Tryz.prog 80 [ptrV b, .string dir, .string name, .slice ba bl bc] h fun v h' => v = .int .i64 ((A.append dir name bs).2 : Int) ∧ sat (fsP b (A.append dir name bs).1 :: F) h' := by
  obtain ⟨q, hq, H0⟩ := fsP_open H
  apply F80_ok
  unfold F80
  refine (F173_spec W hq H0 hd hn).mono ?_
  rintro v h1 ⟨H1, ⟨i, x, d, y, fb, xb, he, hdi, hfi, hy, hxb, rfl⟩ | ⟨e, he, e0, rfl⟩⟩
  · refine ⟨_, some ⟨xb, 0, none⟩, 0, rfl, ?_⟩
    rw [show ((0 : Int) != 0) = false from rfl, cond_false]
    simp only [NN'_some', addr_add0]
    obtain ⟨ya, yc, hyb, _⟩ := file_read (H1.mv 2) hy hxb
    refine LdV (v := .slice ya y.b.length yc) hyb rfl ?_
    have hX := AF.X_of hy
    have wy := W.files y (List.mem_of_getElem? hy)
    have hu := W.used_le
    rw [DSl_slice, ← Int.natCast_add, wrap64_nat (by omega)]
    by_cases hlong : 16777216 < y.b.length + bl
    · rw [decide_eq_true (show (((y.b.length + bl : Nat) : Int) > 16777216) by omega), cond_true]
      have e : A.append dir name bs = (A, 67) := by
        unfold AF.FS.append
        rw [he]
        simp only [hX, hl, if_pos hlong]
      rw [e]
      exact ⟨rfl, fsP_shut q hq H1⟩
    · rw [decide_eq_false (show ¬ (((y.b.length + bl : Nat) : Int) > 16777216) by omega), cond_false]
      refine LdC (i := 1) (v := .int .i64 (A.used : Int)) H1 rfl ?_
      rw [DI_int]
      refine LdC (i := 0) (v := .int .i64 (A.room : Int)) H1 rfl ?_
      rw [DI_int, ← Int.natCast_add, wrap64_nat (by omega)]
      by_cases hfull : A.room < A.used + bl
      · rw [decide_eq_true (show (((A.used + bl : Nat) : Int) > (A.room : Int)) by omega), cond_true]
        have e : A.append dir name bs = (A, 64) := by
          unfold AF.FS.append
          rw [he]
          simp only [hX, hl, if_neg hlong, if_pos hfull]
        rw [e]
        exact ⟨rfl, fsP_shut q hq H1⟩
      · rw [decide_eq_false (show ¬ (((A.used + bl : Nat) : Int) > (A.room : Int)) by omega), cond_false]
        have e : A.append dir name bs = A.step fun g => g.setFile x fun y => { y with b := y.b ++ bs } := by
          unfold AF.FS.append
          rw [he]
          simp only [hX, hl, if_neg hlong, if_neg hfull]
        rw [e]
        refine (step_spec W hs H1).mono ?_
        rintro v h2 (⟨h0, rfl, H2⟩ | ⟨h0, rfl, H2⟩)
        · rw [DI_int, show ((60 : Int) != 0) = true from rfl, cond_true]
          unfold AF.FS.step
          rw [if_pos h0]
          exact ⟨rfl, fsP_shut (A := { A with off := true }) q hq H2⟩
        · rw [DI_int, show ((0 : Int) != 0) = false from rfl, cond_false]
          unfold AF.FS.step
          rw [if_neg h0]
          obtain ⟨a, c, H3⟩ := file_out (H2.mv 2) hy hxb
          refine LdV (v := .slice a y.b.length c) H3.get rfl ?_
          rw [DSl_slice]
          have H4 : sat (ownS 5 1 a y.b.length c (y.b.map nv) :: pt xb (fileC a y.b.length c y.safe) :: fileR q.xbs A.files x :: rawOf b A.stepOn q.md :: ownM strKeys q.md q.m :: dirsP q.xbs q.fbs A.dirs :: F) h2 := H3.mv 1
          have hrd := hr h2 (((((H4.drop).drop).drop).drop).drop).drop
          refine appB (ys := bs) u31 src31 inf5 H4 (srcB hrd hl) (by omega) fun a2 c2 h3 _ H5 => ?_
          rw [DSl_slice]
          refine StCC (b := xb) (i := 0) (c' := #[.slice a2 (y.b.length + bl) c2, .int .i64 (y.safe : Int)]) (H5.mv 1) (by show 0 < 2; decide) rfl fun h4 H6 => ?_
          refine LdC (i := 1) (v := .int .i64 (A.used : Int)) (H6.mv 3) rfl ?_
          rw [DI_int, ← Int.natCast_add, wrap64_nat (by omega)]
          refine StCC (b := b) (i := 1) (c' := #[.int .i64 (A.room : Int), .int .i64 ((A.used + bl : Nat) : Int), .int .i64 (A.stepOn.steps : Int), .int .i64 (fuseI A.stepOn.fuse), .bool A.off, .map (some q.md)]) (H6.mv 3) (by show 1 < 6; decide) rfl fun h5 H7 => ?_
          refine ⟨rfl, fsP_shut q (fsQ_file (A := A.stepOn) hq x _) ?_⟩
          have el : (y.b ++ bs).length = y.b.length + bl := by rw [List.length_append, hl]
          have H8 : sat (pt xb (fileC a2 (y.b ++ bs).length c2 y.safe) :: ownS 5 1 a2 (y.b ++ bs).length c2 ((y.b ++ bs).map nv) :: fileR q.xbs A.files x ::
              rawFS b (A.room : Int) ((A.used + bl : Nat) : Int) (A.stepOn.steps : Int) (fuseI A.stepOn.fuse) A.off q.md :: ownM strKeys q.md q.m :: dirsP q.xbs q.fbs A.dirs :: F) h5 := by
            rw [el]
            exact H7.ordT 6 [1, 2, 3, 0, 4, 5]
          have H9 := file_in (y := ⟨y.b ++ bs, y.safe⟩) hy hxb H8
          have e3 : A.files.set x ⟨y.b ++ bs, y.safe⟩ = (A.stepOn.setFile x fun y => { y with b := y.b ++ bs }).files := (modify_set (l := A.files) (fun y : AF.File => { y with b := y.b ++ bs }) hy).symm
          rw [e3] at H9
          have eu := W.stepOn.used_append (x := x) (AF.entry_idx he) bs
          have eu2 : (A.stepOn.setFile x fun y => { y with b := y.b ++ bs }).used = A.used + bl := by rw [eu, hl]; rfl
          unfold rawOf
          rw [eu2]
          exact H9.ordT 4 [1, 2, 0, 3]
  · refine ⟨none, none, (e : Int), rfl, ?_⟩
    rw [err_bne e0, cond_true]
    unfold AF.FS.append
    rw [he]
    exact ⟨rfl, fsP_shut q hq H1⟩
theorem F81_spec {dir name : ByteArray} (W : A.WF) (hs : A.steps < 1099511627776) (hd : dir.size < 4611686018427387904) (hn : name.size < 4611686018427387904) (H : sat (fsP b A :: F) h) :
    CallsH Tryz.prog 81 [ptrV b, .string dir, .string name] h fun v h' => v = .int .i64 ((A.sync dir name).2 : Int) ∧ sat (fsP b (A.sync dir name).1 :: F) h' := by
  obtain ⟨q, hq, H0⟩ := fsP_open H
  apply F81_ok
  unfold F81
  refine (F173_spec W hq H0 hd hn).mono ?_
  rintro v h1 ⟨H1, ⟨i, x, d, y, fb, xb, he, hdi, hfi, hy, hxb, rfl⟩ | ⟨e, he, e0, rfl⟩⟩
  · refine ⟨_, some ⟨xb, 0, none⟩, 0, rfl, ?_⟩
    rw [show ((0 : Int) == 0) = true from rfl, cond_true]
    have e : A.sync dir name = A.step fun g => g.setFile x fun y => { y with safe := y.b.length } := by
      unfold AF.FS.sync
      rw [he]
    rw [e]
    refine (step_spec W hs H1).mono ?_
    rintro v h2 (⟨h0, rfl, H2⟩ | ⟨h0, rfl, H2⟩)
    · rw [DI_int, show ((60 : Int) == 0) = false from rfl, cond_false]
      unfold AF.FS.step
      rw [if_pos h0]
      exact ⟨rfl, fsP_shut (A := { A with off := true }) q hq H2⟩
    · rw [DI_int, show ((0 : Int) == 0) = true from rfl, cond_true]
      simp only [NN'_some', addr_add0]
      unfold AF.FS.step
      rw [if_neg h0]
      obtain ⟨a, c, H3⟩ := file_out (H2.mv 2) hy hxb
      refine LdV (v := .slice a y.b.length c) H3.get rfl ?_
      rw [DSl_slice]
      refine StCC (b := xb) (i := 1) (c' := #[.slice a y.b.length c, .int .i64 (y.b.length : Int)]) H3 (by show 1 < 2; decide) rfl fun h3 H4 => ?_
      refine ⟨rfl, fsP_shut q (fsQ_file (A := A.stepOn) hq x _) ?_⟩
      have H5 := file_in (y := ⟨y.b, y.b.length⟩) hy hxb H4
      have e3 : A.files.set x ⟨y.b, y.b.length⟩ = (A.stepOn.setFile x fun y => { y with safe := y.b.length }).files := (modify_set (l := A.files) (fun y : AF.File => { y with safe := y.b.length }) hy).symm
      rw [e3] at H5
      have eu2 : (A.stepOn.setFile x fun y => { y with safe := y.b.length }).used = A.stepOn.used := used_sync W.stepOn fun y => rfl
      unfold rawOf
      rw [eu2]
      exact H5.ordT 4 [1, 2, 0, 3]
  · refine ⟨none, none, (e : Int), rfl, ?_⟩
    rw [err_beq e0, cond_false, cond_false]
    unfold AF.FS.sync
    rw [he]
    exact ⟨rfl, fsP_shut q hq H1⟩
theorem F82_spec {dir : ByteArray} (W : A.WF) (hs : A.steps < 1099511627776) (hd : dir.size < 4611686018427387904) (H : sat (fsP b A :: F) h) :
    CallsH Tryz.prog 82 [ptrV b, .string dir] h fun v h' => v = .int .i64 ((A.syncDir dir).2 : Int) ∧ sat (fsP b (A.syncDir dir).1 :: F) h' := by
  obtain ⟨q, hq, H1⟩ := fsP_open H
  apply F82_ok
  unfold F82
  refine (ready_spec (ss := []) (a := none) (c := 0) W hq H1 rfl rfl (show 0 < 1000 by omega) hd (by simp)).mono ?_
  rintro v h1 ⟨rfl, hcase⟩
  rcases hcase with ⟨i, d, fb, he, hdi, hfi, rfl⟩ | ⟨e, he, hne, rfl⟩
  · refine ⟨some ⟨fb, 0, none⟩, 0, rfl, ?_⟩
    rw [show ((0 : Int) == 0) = true from rfl, cond_true]
    have e : A.syncDir dir = A.step fun g => g.setDir i fun d => { d with base := d.now, pend := [] } := by
      unfold AF.FS.syncDir
      rw [he]
    rw [e]
    refine (step_spec W hs H1).mono ?_
    rintro v h2 (⟨h0, rfl, H2⟩ | ⟨h0, rfl, H2⟩)
    · rw [DI_int, show ((60 : Int) == 0) = false from rfl, cond_false]
      unfold AF.FS.step
      rw [if_pos h0]
      exact ⟨rfl, fsP_shut (A := { A with off := true }) q hq H2⟩
    · rw [DI_int, show ((0 : Int) == 0) = true from rfl, cond_true]
      simp only [NN'_some', addr_add0]
      unfold AF.FS.step
      rw [if_neg h0]
      obtain ⟨nb, bb, a, c, H3⟩ := dir_out (H2.mv 3) hdi hfi
      refine LdV (v := .map (some nb)) H3.get rfl ?_
      rw [DM_map]
      obtain ⟨m2, hp2, H4⟩ := names_open (H3.mv 1)
      refine (F56_spec H4).mono ?_
      rintro v h3 ⟨cb, rfl, H5⟩
      rw [DM_map]
      have H6 : sat (pt fb (dirC nb bb a d.pend.length c) :: ownM strKeys cb m2 :: ownM strKeys nb m2 :: dirR q.xbs q.fbs A.dirs i :: rawOf b A.stepOn q.md :: ownM strKeys q.md q.m :: filesP q.xbs A.files :: F) h3 := H5.ordT 9 [2, 0, 1, 5, 6, 7, 8]
      refine StCC (b := fb) (i := 1) (c' := #[.map (some nb), .map (some cb), .slice a d.pend.length c]) H6 (by show 1 < 3; decide) rfl fun h4 H7 => ?_
      refine StCC (b := fb) (i := 2) (c' := #[.map (some nb), .map (some cb), .slice none 0 0]) H7 (by show 2 < 3; decide) rfl fun h5 H8 => ?_
      have H9 := names_shut hp2 (H8.mv 1)
      have H10 := names_shut hp2 (H9.mv 2)
      have H11 := ownL_nil (opP q.xbs) 138 H10
      -- ownL, names nb, names cb, pt fb, dirR
      have H12 : sat (dirsP q.xbs q.fbs (A.dirs.set i { d with base := d.now, pend := [] }) :: rawOf b A.stepOn q.md :: ownM strKeys q.md q.m :: filesP q.xbs A.files :: F) h5 :=
        dir_in (d := { d with base := d.now, pend := [] }) (a := none) (c := 0) hdi hfi (H11.ordT 5 [3, 1, 2, 0, 4])
      have e3 : A.dirs.set i { d with base := d.now, pend := [] } = (A.stepOn.setDir i fun d => { d with base := d.now, pend := [] }).dirs := (modify_set (l := A.dirs) (fun d : AF.Dir => { d with base := d.now, pend := [] }) hdi).symm
      rw [e3] at H12
      have eu : (A.stepOn.setDir i fun d => { d with base := d.now, pend := [] }).used = A.stepOn.used := by
        have : (A.stepOn.setDir i fun d => { d with base := d.now, pend := [] }).idx = A.stepOn.idx := by
          unfold AF.FS.idx
          rw [List.flatMap_def, List.flatMap_def]
          congr 1
          apply List.ext_getElem?
          intro j
          show ((A.dirs.modify i _).map _)[j]? = (A.dirs.map _)[j]?
          rw [List.getElem?_map, List.getElem?_map, get_modify]
          cases A.dirs[j]? with
          | none => rfl
          | some d' => by_cases hij : i = j <;> simp [hij]
        unfold AF.FS.used
        rw [this]
        rfl
      refine ⟨rfl, fsP_shut q (fsQ_of (A := A.stepOn) hq (names_modify fun d => rfl) rfl) ?_⟩
      unfold rawOf
      rw [eu]
      exact H12.ordT 4 [1, 2, 3, 0]
  · refine ⟨none, (e : Int), rfl, ?_⟩
    have e0 : e ≠ 0 := by omega
    rw [err_beq e0, cond_false, cond_false]
    unfold AF.FS.syncDir
    rw [he]
    exact ⟨rfl, fsP_shut q hq H1⟩
end

end Go.Proofs.YtibdiikcigokjaaGreatDoor

namespace Go.Proofs.YtibdiikcigokjaaGreatDoor
open Go Go.RowKit Go.MapKept
set_option linter.unusedVariables false
set_option linter.unusedSimpArgs false

theorem RdCv {F : List HProp} {h : Heap} {b0 : Nat} {e : TypeId} {cs : Array Value} {xs : List Value} (H : sat (pt b0 (.cells cs e (0, 0)) :: F) h) (hx : cs.toList = xs) : RdC h (some ⟨b0, 0, none⟩) xs := by
  intro j u hv
  rw [cell_of_pt H.get, ← hv, ← hx, Array.getElem?_toList]
theorem sortB_up {l : List ByteArray} (h : l.Pairwise fun a b => AF.ltB a b = true) : sortB l = l := by
  have tr : ∀ x y z : List UInt8, decide (x ≤ y) = true → decide (y ≤ z) = true → decide (x ≤ z) = true := fun x y z h1 h2 => by
    simp only [decide_eq_true_eq] at h1 h2 ⊢
    exact List.le_trans h1 h2
  have to : ∀ x y : List UInt8, (decide (x ≤ y) || decide (y ≤ x)) = true := fun x y => by
    simp only [Bool.or_eq_true, decide_eq_true_eq]
    exact List.le_total x y
  have e : (l.map fun s : ByteArray => s.data.toList).mergeSort (fun x y => decide (x ≤ y)) = l.map fun s : ByteArray => s.data.toList := by
    refine List.Perm.eq_of_pairwise (le := fun x y => decide (x ≤ y) = true) ?_ (List.pairwise_mergeSort tr to _) ?_ (List.mergeSort_perm _ _)
    · intro x y _ _ h1 h2
      simp only [decide_eq_true_eq] at h1 h2
      exact List.le_antisymm h1 h2
    · rw [List.pairwise_map]
      refine h.imp fun {a b} hab => ?_
      rw [AF.strLt_iff] at hab
      simp only [decide_eq_true_eq]
      exact List.le_of_lt hab
  unfold sortB
  rw [e, List.map_map]
  conv => rhs; rw [← List.map_id l]
  exact List.map_congr_left fun s _ => by cases s; rfl
section
variable {b : Nat} {A : AF.FS} {q : FsQ} {F : List HProp} {h : Heap}
theorem F83_spec {dir k k2 : ByteArray} (W : A.WF) (hs : A.steps < 1099511627776) (hd : dir.size < 4611686018427387904) (hn : k.size < 4611686018427387904) (hn2 : k2.size < 4611686018427387904) (H : sat (fsP b A :: F) h) :
    CallsH Tryz.prog 83 [ptrV b, .string dir, .string k, .string k2] h fun v h' => v = .int .i64 ((A.rename dir k k2).2 : Int) ∧ sat (fsP b (A.rename dir k k2).1 :: F) h' := by
  obtain ⟨q, hq, H0⟩ := fsP_open H
  apply F83_ok
  unfold F83
  refine Al_sat H0 fun b0 h1 H1 => Al_sat H1 fun b1 h2 H2 => ?_
  refine LdV (v := .string k) (H2.mv 1).get rfl ?_
  rw [DS_string]
  refine LdV (v := .string k2) H2.get rfl ?_
  rw [DS_string]
  refine Al_sat H2 fun b2 h3 H3 => ?_
  have H4 : sat (fs4 b A q (pt b0 (.cells #[.string k] 9 (0, 0)) :: pt b1 (.cells #[.string k2] 9 (0, 0)) :: F)) h3 := H3.ordT 7 [3, 4, 5, 6, 2, 1]
  refine (ready_spec (ss := [k, k2]) W hq H4 (RdCv H3 rfl) rfl (show 2 < 1000 by omega) hd (fun s hs => by simp at hs; rcases hs with rfl | rfl; exact hn; exact hn2)).mono ?_
  rintro v h4 ⟨rfl, hcase⟩
  have Hd : sat (fs4 b A q F) h4 := (((H4.mv 5).drop).mv 4).drop
  rcases hcase with ⟨i, d, fb, he, hdi, hfi, rfl⟩ | ⟨e, he, hne, rfl⟩
  · have w := W.each d (List.mem_of_getElem? hdi)
    obtain ⟨nb, bb, a, c, es, hfb, hes, hsz, hlk⟩ := dir_read (H4.mv 3) hdi hfi w.ok.up
    obtain ⟨f, hf, hl⟩ := hlk k
    refine ⟨some ⟨fb, 0, none⟩, 0, rfl, ?_⟩
    rw [show ((0 : Int) != 0) = false from rfl, cond_false]
    simp only [NN'_some', addr_add0]
    have rd : ∀ K : Value → Prop, K (.map (some nb)) → Ld h4 ⟨fb, 0, none⟩ K := fun K hK => ⟨_, by rw [cellAt_of hfb]; rfl, hK⟩
    refine rd _ ?_
    rw [DM_map]
    refine LdV (v := .string k) (H4.mv 4).get rfl ?_
    rw [DS_string]
    refine ⟨es, hes, f, hf, DP_ent hl ?_⟩
    have hD := AF.D_of hdi
    cases ho : AF.of d.now k with
    | none =>
      show bif (true : Bool) then _ else _
      rw [cond_true]
      have e : A.rename dir k k2 = (A, 62) := by
        unfold AF.FS.rename
        rw [he]
        simp only [hD, ho, Option.isNone_none, if_true]
      rw [e]
      exact ⟨rfl, fsP_shut q hq Hd⟩
    | some x =>
      show bif (false : Bool) then _ else _
      rw [cond_false]
      have e : A.rename dir k k2 = A.step fun g => g.did i (.rename k k2) := by
        unfold AF.FS.rename
        rw [he]
        simp only [hD, ho, Option.isNone_some, Bool.false_eq_true, if_false]
      rw [e]
      obtain ⟨_, _, hr, _, _⟩ := AF.ready_ok he
      have ho2 : AF.of d.now k ≠ none := by rw [ho]; exact fun e => by cases e
      have K1 := ((H4.mv 4).freeze.mv 5).freeze
      -- b1, b0, fs4
      have K2 : sat (opP q.xbs (.rename k k2) (.func (.func 174) #[] #[ptrV b0, ptrV b1]) :: fs4 b A q F) h4 := by
        refine sat_exi.2 ⟨(b0, b1), sat.shut (m := [pur ((Value.func (.func 174) #[] #[ptrV b0, ptrV b1]) = .func (.func 174) #[] #[ptrV b0, ptrV b1]), ro b0 (.cells #[.string k] 9 (0, 0)), ro b1 (.cells #[.string k2] 9 (0, 0))]) ?_⟩
        exact sat_pur.2 ⟨rfl, K1.mv 1⟩
      refine (F171_spec W (AF.rename_wf W hdi (hr k (by simp)) (hr k2 (by simp)) ho2) hq hdi hfi (AF.rename_fits (hr k (by simp)) (hr k2 (by simp)) ho2) hs (K2.bk 4)).mono ?_
      rintro v h5 ⟨rfl, H5⟩
      rw [DI_int]
      refine ⟨rfl, fsP_shut q ?_ H5⟩
      unfold AF.FS.step
      split
      · exact hq
      · exact fsQ_did (A := A.stepOn) hq i _
  · refine ⟨none, (e : Int), rfl, ?_⟩
    have e0 : e ≠ 0 := by omega
    rw [err_bne e0, cond_true]
    unfold AF.FS.rename
    rw [he]
    exact ⟨rfl, fsP_shut q hq Hd⟩
theorem F84_spec {dir k : ByteArray} (W : A.WF) (hs : A.steps < 1099511627776) (hd : dir.size < 4611686018427387904) (hn : k.size < 4611686018427387904) (H : sat (fsP b A :: F) h) :
    CallsH Tryz.prog 84 [ptrV b, .string dir, .string k] h fun v h' => v = .int .i64 ((A.remove dir k).2 : Int) ∧ sat (fsP b (A.remove dir k).1 :: F) h' := by
  obtain ⟨q, hq, H0⟩ := fsP_open H
  apply F84_ok
  unfold F84
  refine Al_sat H0 fun b0 h1 H1 => ?_
  refine LdV (v := .string k) H1.get rfl ?_
  rw [DS_string]
  refine (F173_spec W hq (H1.bk 4) hd hn).mono ?_
  rintro v h2 ⟨H2, ⟨i, x, d, y, fb, xb, he, hdi, hfi, hy, hxb, rfl⟩ | ⟨e, he, e0, rfl⟩⟩
  · refine ⟨some ⟨fb, 0, none⟩, _, 0, rfl, ?_⟩
    rw [show ((0 : Int) != 0) = false from rfl, cond_false]
    have e : A.remove dir k = A.step fun g => g.did i (.remove k) := by
      unfold AF.FS.remove
      rw [he]
    rw [e]
    obtain ⟨hrd, _⟩ := AF.entry_ok he
    obtain ⟨_, _, hr, _, _⟩ := AF.ready_ok hrd
    have K2 : sat (opP q.xbs (.remove k) (.func (.func 175) #[] #[ptrV b0]) :: fs4 b A q F) h2 := by
      refine sat_exi.2 ⟨b0, sat.shut (m := [pur ((Value.func (.func 175) #[] #[ptrV b0]) = .func (.func 175) #[] #[ptrV b0]), ro b0 (.cells #[.string k] 9 (0, 0))]) ?_⟩
      exact sat_pur.2 ⟨rfl, (H2.mv 4).freeze⟩
    refine (F171_spec W (AF.remove_wf W hdi (hr k (by simp))) hq hdi hfi (hr k (by simp)) hs (K2.bk 4)).mono ?_
    rintro v h5 ⟨rfl, H5⟩
    rw [DI_int]
    refine ⟨rfl, fsP_shut q ?_ H5⟩
    unfold AF.FS.step
    split
    · exact hq
    · exact fsQ_did (A := A.stepOn) hq i _
  · refine ⟨none, none, (e : Int), rfl, ?_⟩
    rw [err_bne e0, cond_true]
    unfold AF.FS.remove
    rw [he]
    exact ⟨rfl, fsP_shut q hq (H2.mv 4).drop⟩
theorem F176_spec {a : Option Addr} {l c : Nat} {xs : List Nat} (hl : l ≤ 140737488355328) (H : sat (ownS 5 1 a l c (xs.map nv) :: F) h) :
    CallsH Tryz.prog 176 [.slice a l c] h fun v h' => ∃ (a2 : Option Addr) (c2 : Nat), v = .slice a2 l c2 ∧ sat (ownS 5 1 a2 l c2 (xs.map nv) :: ownS 5 1 a l c (xs.map nv) :: F) h' := by
  apply F176_ok
  unfold F176
  cases a with
  | none =>
    obtain ⟨hxl, ⟨_, rfl, rfl, hx, H1⟩ | ⟨_, _, _, e, _⟩⟩ := ownS_cases H
    · refine ⟨none, 0, rfl, ?_⟩
      rw [hx]
      exact ownS_nil 5 1 (ownS_nil 5 1 H1)
    · cases e
  | some a =>
    rw [show (some a).isNone = false from rfl, cond_false]
    have hlen := ownS_len H
    refine Al_sat H fun b0 h1 H1 => ?_
    have H2 : sat (ownS 5 1 (some ⟨b0, 0, none⟩) 0 0 (([] : List Nat).map nv) :: ownS 5 1 (some a) l c (xs.map nv) :: F) h1 := ownS_mk H1 (fun i hi => by simp at hi) (Nat.le_refl _) (Nat.zero_le _) rfl rfl
    refine appB (ys := xs) u31 src31 inf5 H2 (srcB (ownS_read (H2.mv 1)) (by have := hlen.1; simpa using this)) (by omega) fun a2 c2 h2 _ H3 => ?_
    rw [DSl_slice]
    rw [Nat.zero_add, List.nil_append] at H3
    exact ⟨a2, c2, by rw [Nat.zero_add], H3⟩
theorem F103_spec {dir name : ByteArray} (W : A.WF) (hd : dir.size < 4611686018427387904) (hn : name.size < 4611686018427387904) (H : sat (fsP b A :: F) h) :
    CallsH Tryz.prog 103 [ptrV b, .string dir, .string name] h fun v h' =>
      (∃ (bs : List Nat) (a : Option Addr) (c : Nat), A.read dir name = .ok bs ∧ B8 bs ∧ bs.length ≤ 16777216 ∧ v = .tuple #[.slice a bs.length c, .int .i64 0] ∧ sat (ownS 5 1 a bs.length c (bs.map nv) :: fsP b A :: F) h') ∨
      (∃ e : Nat, A.read dir name = .error e ∧ e ≠ 0 ∧ v = .tuple #[.slice none 0 0, .int .i64 (e : Int)] ∧ sat (fsP b A :: F) h') := by
  obtain ⟨q, hq, H0⟩ := fsP_open H
  apply F103_ok
  unfold F103
  refine (F173_spec W hq H0 hd hn).mono ?_
  rintro v h1 ⟨H1, ⟨i, x, d, y, fb, xb, he, hdi, hfi, hy, hxb, rfl⟩ | ⟨e, he, e0, rfl⟩⟩
  · refine ⟨_, some ⟨xb, 0, none⟩, 0, rfl, ?_⟩
    rw [show ((0 : Int) != 0) = false from rfl, cond_false]
    simp only [NN'_some', addr_add0]
    have wy := W.files y (List.mem_of_getElem? hy)
    obtain ⟨a, c, H3⟩ := file_out (H1.mv 2) hy hxb
    refine LdV (v := .slice a y.b.length c) H3.get rfl ?_
    rw [DSl_slice]
    refine (F176_spec (by omega) (H3.mv 1)).mono ?_
    rintro v h2 ⟨a2, c2, rfl, H4⟩
    rw [DSl_slice]
    refine .inl ⟨y.b, a2, c2, ?_, wy.2.2, wy.2.1, rfl, ?_⟩
    · unfold AF.FS.read
      rw [he]
      simp only [AF.X_of hy]
    · -- copy, ownS, pt xb, fileR, raw, ownM, dirs
      have H5 := file_in hy hxb (H4.ordT 7 [2, 1, 3, 0, 4, 5, 6])
      rw [set_self hy] at H5
      have H6 : sat (fs4 b A q (ownS 5 1 a2 y.b.length c2 (y.b.map nv) :: F)) h2 := H5.ordT 5 [2, 3, 0, 4, 1]
      exact (fsP_shut q hq H6).mv 1
  · refine ⟨none, none, (e : Int), rfl, ?_⟩
    rw [err_bne e0, cond_true]
    refine .inr ⟨e, ?_, e0, rfl, fsP_shut q hq H1⟩
    unfold AF.FS.read
    rw [he]
theorem up_names {l : AF.Names} (h : AF.Up l) : (l.map (·.1)).Pairwise fun a b => AF.ltB a b = true := List.pairwise_map.2 h
theorem F16_spec {dir : ByteArray} (W : A.WF) (hd : dir.size < 4611686018427387904) (H : sat (fsP b A :: F) h) :
    CallsH Tryz.prog 16 [ptrV b, .string dir] h fun v h' =>
      (∃ (ks : List ByteArray) (a : Option Addr) (c : Nat), A.list dir = .ok ks ∧ (∀ k ∈ ks, AF.right k = true) ∧ ks.length ≤ 4096 ∧ v = .tuple #[.slice a ks.length c, .int .i64 0] ∧ sat (ownS 9 1 a ks.length c (ks.map Value.string) :: fsP b A :: F) h') ∨
      (∃ e : Nat, A.list dir = .error e ∧ e ≠ 0 ∧ v = .tuple #[.slice none 0 0, .int .i64 (e : Int)] ∧ sat (fsP b A :: F) h') := by
  obtain ⟨q, hq, H1⟩ := fsP_open H
  apply F16_ok
  unfold F16
  refine (ready_spec (ss := []) (a := none) (c := 0) W hq H1 rfl rfl (show 0 < 1000 by omega) hd (by simp)).mono ?_
  rintro v h1 ⟨rfl, hcase⟩
  rcases hcase with ⟨i, d, fb, he, hdi, hfi, rfl⟩ | ⟨e, he, hne, rfl⟩
  · refine ⟨some ⟨fb, 0, none⟩, 0, rfl, ?_⟩
    rw [show ((0 : Int) != 0) = false from rfl, cond_false]
    simp only [NN'_some', addr_add0]
    have w := W.each d (List.mem_of_getElem? hdi)
    obtain ⟨nb, bb, a, c, H3⟩ := dir_out (H1.mv 3) hdi hfi
    refine LdV (v := .map (some nb)) H3.get rfl ?_
    rw [DM_map]
    refine (F52_spec H3).mono ?_
    rintro v h2 ⟨cb, rfl, H4⟩
    refine ⟨_, rfl, ?_⟩
    obtain ⟨m2, hp2, H5⟩ := names_open (H4.mv 2)
    have hml : m2.length = d.now.length := by rw [hp2.length_eq, List.length_map]
    have hfew := w.ok.few
    refine (F51_spec (H5.mv 1) (by omega)).mono ?_
    rintro v h3 ⟨a3, c3, rfl, H6⟩
    rw [DSl_slice]
    have ek : sortB (m2.map (·.1)) = d.now.map (·.1) := by
      rw [sortB_perm (hp2.map (·.1)), ent_keys, sortB_up (up_names w.ok.up)]
    rw [ek] at H6
    refine .inl ⟨d.now.map (·.1), a3, c3, ?_, ?_, by rw [List.length_map]; exact hfew, by rw [List.length_map, hml], ?_⟩
    · unfold AF.FS.list
      rw [he]
      simp only [AF.D_of hdi]
    · intro k hk
      obtain ⟨p, hp, rfl⟩ := List.mem_map.1 hk
      exact (w.ok.each p hp).2
    · rw [List.length_map, ← hml]
      -- ownS, ownM nb, pt fb, names bb, ownL, dirR, raw, ownM, files
      have H7 := names_shut hp2 (H6.mv 1)
      have H8 := dir_in (d := d) hdi hfi (H7.ordT 9 [2, 0, 3, 4, 5, 1, 6, 7, 8])
      rw [set_self hdi] at H8
      have H9 : sat (fs4 b A q (ownS 9 1 a3 m2.length c3 ((d.now.map (·.1)).map Value.string) :: F)) h3 := H8.ordT 5 [2, 3, 4, 0, 1]
      exact (fsP_shut q hq H9).mv 1
  · refine ⟨none, (e : Int), rfl, ?_⟩
    have e0 : e ≠ 0 := by omega
    rw [err_bne e0, cond_true]
    refine .inr ⟨e, ?_, e0, rfl, fsP_shut q hq H1⟩
    unfold AF.FS.list
    rw [he]
theorem F18_spec {n : Int} (H : sat (fsP b A :: F) h) : CallsH Tryz.prog 18 [ptrV b, .int .i64 n] h fun v h' => v = .int .i64 ((A.setFuse n).2 : Int) ∧ sat (fsP b (A.setFuse n).1 :: F) h' := by
  obtain ⟨q, hq, H1⟩ := fsP_open H
  apply F18_ok
  unfold F18 AF.FS.setFuse
  rw [show (some (⟨b, 0, none⟩ : Addr)).isNone = false from rfl, cond_false]
  by_cases hn : n < 0
  · rw [decide_eq_true hn, cond_true, if_pos hn]
    exact ⟨rfl, H⟩
  · rw [decide_eq_false hn, cond_false, if_neg hn]
    simp only [NN'_some', addr_add0]
    refine StCC (b := b) (i := 3) (c' := #[.int .i64 (A.room : Int), .int .i64 (A.used : Int), .int .i64 (A.steps : Int), .int .i64 n, .bool A.off, .map (some q.md)]) H1 (by show 3 < 6; decide) rfl fun h1 H2 => ?_
    refine ⟨rfl, fsP_shut (A := { A with fuse := some n.toNat }) q hq ?_⟩
    have e : fuseI (some n.toNat) = n := by show ((n.toNat : Nat) : Int) = n; omega
    show sat (rawFS b (A.room : Int) (A.used : Int) (A.steps : Int) (fuseI (some n.toNat)) A.off q.md :: _) h1
    rw [e]
    exact H2
end

end Go.Proofs.YtibdiikcigokjaaGreatDoor

namespace Go.Proofs.YtibdiikcigokjaaGreatDoor
open Go Go.RowKit Go.MapKept
set_option linter.unusedVariables false
set_option linter.unusedSimpArgs false

section
variable {b : Nat} {A : AF.FS} {q : FsQ} {F G : List HProp} {h : Heap}
end

end Go.Proofs.YtibdiikcigokjaaGreatDoor

namespace Go.Proofs.YtibdiikcigokjaaGreatDoor
open Go Go.RowKit Go.MapKept
set_option linter.unusedVariables false
set_option linter.unusedSimpArgs false

section
variable {b : Nat} {A : AF.FS} {q : FsQ} {F : List HProp} {h : Heap}
end

end Go.Proofs.YtibdiikcigokjaaGreatDoor
