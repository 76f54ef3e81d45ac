/- Append, Sync, SyncDir. Rename, Remove, Read, List, Dirs, and what is told at once. Crash. Crash: the calls themselves. -/
import Derived.Test.YtibdiikcigokjaaGreatDoorKsFsC
import Derived.Test.YtibdiikcigokjaaGreatDoorKsFsA
namespace Go.Proofs.YtibdiikcigokjaaGreatDoor
open Go Go.RowKit Go.MapKept
set_option linter.unusedVariables false
set_option linter.unusedSimpArgs false
theorem u31 : Tryz.prog.underlying 85 = some (.slice 5) := by kernel_rfl
theorem src31 : srcTy Tryz.prog 85 = true := by kernel_rfl
theorem inf5 : infoOk Tryz.prog 5 1 = true := by kernel_rfl
def fileC (a : Option Addr) (l c s : Nat) : Obj := .cells #[.slice a l c, .int .i64 (s : Int)] 141 (0, 0)
def fileR (xbs : List Nat) (fs : List AF.File) (x : Nat) : HProp := butP fileP fs xbs x
section
variable {b : Nat} {A : AF.FS} {q : FsQ} {F : List HProp} {h : Heap}
theorem file_out {xbs : List Nat} {fs : List AF.File} {x : Nat} {y : AF.File} {xb : Nat} (H : sat (filesP xbs fs :: F) h) (hx : fs[x]? = some y) (hb : xbs[x]? = some xb) :
  ∃ (a : Option Addr) (c : Nat), sat (pt xb (fileC a y.b.length c y.safe) :: ownS 5 1 a y.b.length c (y.b.map nv) :: fileR xbs fs x :: F) h := by
 obtain ⟨r, H2⟩ := sat_exi.1 (many_out H hx hb)
 exact ⟨r.1, r.2, H2.open⟩
theorem file_in {xbs : List Nat} {fs : List AF.File} {x : Nat} {y y' : AF.File} {xb c : Nat} {a : Option Addr} (hx : fs[x]? = some y') (hb : xbs[x]? = some xb)
  (H : sat (pt xb (fileC a y.b.length c y.safe) :: ownS 5 1 a y.b.length c (y.b.map nv) :: fileR xbs fs x :: F) h) : sat (filesP xbs (fs.set x y) :: F) h := by
 refine many_in hb (List.getElem?_eq_some_iff.1 hx).1 (sat_exi.2 ⟨(a, c), ?_⟩)
 exact sat.shut (m := [pt xb (fileC a y.b.length c y.safe), ownS 5 1 a y.b.length c (y.b.map nv)]) H
theorem fsQ_file (hq : fsQ A q) (x : Nat) (g : AF.File → AF.File) : fsQ (A.setFile x g) q := fsQ_of hq rfl (List.length_modify ..)
theorem used_sync (W : A.WF) {x : Nat} {g : AF.File → AF.File} (hg : ∀ y, (g y).b = y.b) : (A.setFile x g).used = A.used := by
 unfold AF.FS.used
 congr 1
 apply List.map_congr_left
 intro y hy
 rw [AF.X_setFile]
 split
 · rw [hg]
 · rfl
theorem F80_spec {dir name : ByteArray} {ba : Option Addr} {bl bc : Nat} {bs : List Nat} (W : A.WF) (hs : A.steps < 1099511627776) (hd : dir.size < 4611686018427387904) (hn : name.size < 4611686018427387904)
  (hr : ∀ h', sat F h' → RdC h' ba (bs.map nv)) (hl : bs.length = bl) (hlb : bl < 4611686018427387904) (H : sat (fsP b A :: F) h) :
  CallsH Tryz.prog 80 [ptrV b, .string dir, .string name, .slice ba bl bc] h fun v h' => v = .int .i64 ((A.append dir name bs).2 : Int) ∧ sat (fsP b (A.append dir name bs).1 :: F) h' := by
 obtain ⟨q, hq, H0⟩ := fsP_open H
 apply F80_ok.ap
 unfold F80
 refine (F173_spec W hq H0 hd hn).mono ?_
 rintro v h1 ⟨H1, ⟨i, x, d, y, fb, xb, he, hdi, hfi, hy, hxb, rfl⟩ | ⟨e, he, e0, rfl⟩⟩
 · refine ⟨_, some ⟨xb, 0, none⟩, 0, rfl, ?_⟩;rw [show ((0 : Int) != 0) = false from rfl, cond_false];simp only [NN'_some', addr_add0];obtain ⟨ya, yc, hyb, _⟩ := file_read (H1.mv 2) hy hxb;refine LdV (v := .slice ya y.b.length yc) hyb rfl ?_;have hX := AF.X_of hy;have wy := W.files y (List.mem_of_getElem? hy);have hu := W.used_le;rw [DSl_slice, ← Int.natCast_add, wrap64_nat (by omega)];by_cases hlong : 16777216 < y.b.length + bl
   · rw [decide_eq_true (show (((y.b.length + bl : Nat) : Int) > 16777216) by omega), cond_true];have e : A.append dir name bs = (A, 67) := by
      unfold AF.FS.append;rw [he];simp only [hX, hl, if_pos hlong]
     rw [e];exact ⟨rfl, fsP_shut q hq H1⟩
   · rw [decide_eq_false (show ¬ (((y.b.length + bl : Nat) : Int) > 16777216) by omega), cond_false];refine LdC (i := 1) (v := .int .i64 (A.used : Int)) H1 rfl ?_;rw [DI_int];refine LdC (i := 0) (v := .int .i64 (A.room : Int)) H1 rfl ?_;rw [DI_int, ← Int.natCast_add, wrap64_nat (by omega)];by_cases hfull : A.room < A.used + bl
     · rw [decide_eq_true (show (((A.used + bl : Nat) : Int) > (A.room : Int)) by omega), cond_true];have e : A.append dir name bs = (A, 64) := by
        unfold AF.FS.append;rw [he];simp only [hX, hl, if_neg hlong, if_pos hfull]
       rw [e];exact ⟨rfl, fsP_shut q hq H1⟩
     · rw [decide_eq_false (show ¬ (((A.used + bl : Nat) : Int) > (A.room : Int)) by omega), cond_false];have e : A.append dir name bs = A.step fun g => g.setFile x fun y => { y with b := y.b ++ bs } := by
        unfold AF.FS.append;rw [he];simp only [hX, hl, if_neg hlong, if_neg hfull]
       rw [e];refine (step_spec W hs H1).mono ?_;rintro v h2 (⟨h0, rfl, H2⟩ | ⟨h0, rfl, H2⟩)
       · rw [DI_int, show ((60 : Int) != 0) = true from rfl, cond_true];unfold AF.FS.step;rw [if_pos h0];exact ⟨rfl, fsP_shut (A := { A with off := true }) q hq H2⟩
       · rw [DI_int, show ((0 : Int) != 0) = false from rfl, cond_false];unfold AF.FS.step;rw [if_neg h0];obtain ⟨a, c, H3⟩ := file_out (H2.mv 2) hy hxb;refine LdV (v := .slice a y.b.length c) H3.get rfl ?_;rw [DSl_slice];have H4 : sat (ownS 5 1 a y.b.length c (y.b.map nv) :: pt xb (fileC a y.b.length c y.safe) :: fileR q.xbs A.files x :: rawOf b A.stepOn q.md :: ownM strKeys q.md q.m :: dirsP q.xbs q.fbs A.dirs :: F) h2 := H3.mv 1;have hrd := hr h2 (((((H4.drop).drop).drop).drop).drop).drop;refine appB (ys := bs) u31 src31 inf5 H4 (srcB hrd hl) (by omega) fun a2 c2 h3 _ H5 => ?_;rw [DSl_slice];refine StCC (b := xb) (i := 0) (c' := #[.slice a2 (y.b.length + bl) c2, .int .i64 (y.safe : Int)]) (H5.mv 1) (by show 0 < 2; decide) rfl fun h4 H6 => ?_;refine LdC (i := 1) (v := .int .i64 (A.used : Int)) (H6.mv 3) rfl ?_;rw [DI_int, ← Int.natCast_add, wrap64_nat (by omega)];refine StCC (b := b) (i := 1) (c' := #[.int .i64 (A.room : Int), .int .i64 ((A.used + bl : Nat) : Int), .int .i64 (A.stepOn.steps : Int), .int .i64 (fuseI A.stepOn.fuse), .bool A.off, .map (some q.md)]) (H6.mv 3) (by show 1 < 6; decide) rfl fun h5 H7 => ?_;refine ⟨rfl, fsP_shut q (fsQ_file (A := A.stepOn) hq x _) ?_⟩;have el : (y.b ++ bs).length = y.b.length + bl := by rw [List.length_append, hl]
         have H8 : sat (pt xb (fileC a2 (y.b ++ bs).length c2 y.safe) :: ownS 5 1 a2 (y.b ++ bs).length c2 ((y.b ++ bs).map nv) :: fileR q.xbs A.files x ::
          rawFS b (A.room : Int) ((A.used + bl : Nat) : Int) (A.stepOn.steps : Int) (fuseI A.stepOn.fuse) A.off q.md :: ownM strKeys q.md q.m :: dirsP q.xbs q.fbs A.dirs :: F) h5 := by
          rw [el];exact H7.ordT 6 [1, 2, 3, 0, 4, 5]
         have H9 := file_in (y := ⟨y.b ++ bs, y.safe⟩) hy hxb H8;have e3 : A.files.set x ⟨y.b ++ bs, y.safe⟩ = (A.stepOn.setFile x fun y => { y with b := y.b ++ bs }).files := (modify_set (l := A.files) (fun y : AF.File => { y with b := y.b ++ bs }) hy).symm;rw [e3] at H9;have eu := W.stepOn.used_append (x := x) (AF.entry_idx he) bs;have eu2 : (A.stepOn.setFile x fun y => { y with b := y.b ++ bs }).used = A.used + bl := by rw [eu, hl]; rfl
         unfold rawOf;rw [eu2];exact H9.ordT 4 [1, 2, 0, 3]
 · refine ⟨none, none, (e : Int), rfl, ?_⟩;rw [err_bne e0, cond_true];unfold AF.FS.append;rw [he];exact ⟨rfl, fsP_shut q hq H1⟩
theorem F81_spec {dir name : ByteArray} (W : A.WF) (hs : A.steps < 1099511627776) (hd : dir.size < 4611686018427387904) (hn : name.size < 4611686018427387904) (H : sat (fsP b A :: F) h) :
  CallsH Tryz.prog 81 [ptrV b, .string dir, .string name] h fun v h' => v = .int .i64 ((A.sync dir name).2 : Int) ∧ sat (fsP b (A.sync dir name).1 :: F) h' := by
 obtain ⟨q, hq, H0⟩ := fsP_open H
 apply F81_ok.ap
 unfold F81
 refine (F173_spec W hq H0 hd hn).mono ?_
 rintro v h1 ⟨H1, ⟨i, x, d, y, fb, xb, he, hdi, hfi, hy, hxb, rfl⟩ | ⟨e, he, e0, rfl⟩⟩
 · refine ⟨_, some ⟨xb, 0, none⟩, 0, rfl, ?_⟩;rw [show ((0 : Int) == 0) = true from rfl, cond_true];have e : A.sync dir name = A.step fun g => g.setFile x fun y => { y with safe := y.b.length } := by
    unfold AF.FS.sync;rw [he]
   rw [e];refine (step_spec W hs H1).mono ?_;rintro v h2 (⟨h0, rfl, H2⟩ | ⟨h0, rfl, H2⟩)
   · rw [DI_int, show ((60 : Int) == 0) = false from rfl, cond_false];unfold AF.FS.step;rw [if_pos h0];exact ⟨rfl, fsP_shut (A := { A with off := true }) q hq H2⟩
   · rw [DI_int, show ((0 : Int) == 0) = true from rfl, cond_true];simp only [NN'_some', addr_add0];unfold AF.FS.step;rw [if_neg h0];obtain ⟨a, c, H3⟩ := file_out (H2.mv 2) hy hxb;refine LdV (v := .slice a y.b.length c) H3.get rfl ?_;rw [DSl_slice];refine StCC (b := xb) (i := 1) (c' := #[.slice a y.b.length c, .int .i64 (y.b.length : Int)]) H3 (by show 1 < 2; decide) rfl fun h3 H4 => ?_;refine ⟨rfl, fsP_shut q (fsQ_file (A := A.stepOn) hq x _) ?_⟩;have H5 := file_in (y := ⟨y.b, y.b.length⟩) hy hxb H4;have e3 : A.files.set x ⟨y.b, y.b.length⟩ = (A.stepOn.setFile x fun y => { y with safe := y.b.length }).files := (modify_set (l := A.files) (fun y : AF.File => { y with safe := y.b.length }) hy).symm;rw [e3] at H5;have eu2 : (A.stepOn.setFile x fun y => { y with safe := y.b.length }).used = A.stepOn.used := used_sync W.stepOn fun y => rfl;unfold rawOf;rw [eu2];exact H5.ordT 4 [1, 2, 0, 3]
 · refine ⟨none, none, (e : Int), rfl, ?_⟩;rw [err_beq e0, cond_false, cond_false];unfold AF.FS.sync;rw [he];exact ⟨rfl, fsP_shut q hq H1⟩
theorem F82_spec {dir : ByteArray} (W : A.WF) (hs : A.steps < 1099511627776) (hd : dir.size < 4611686018427387904) (H : sat (fsP b A :: F) h) :
  CallsH Tryz.prog 82 [ptrV b, .string dir] h fun v h' => v = .int .i64 ((A.syncDir dir).2 : Int) ∧ sat (fsP b (A.syncDir dir).1 :: F) h' := by
 obtain ⟨q, hq, H1⟩ := fsP_open H
 apply F82_ok.ap
 unfold F82
 refine (ready_spec (ss := []) (a := none) (c := 0) W hq H1 rfl rfl (show 0 < 1000 by omega) hd (by simp)).mono ?_
 rintro v h1 ⟨rfl, hcase⟩
 rcases hcase with ⟨i, d, fb, he, hdi, hfi, rfl⟩ | ⟨e, he, hne, rfl⟩
 · refine ⟨some ⟨fb, 0, none⟩, 0, rfl, ?_⟩;rw [show ((0 : Int) == 0) = true from rfl, cond_true];have e : A.syncDir dir = A.step fun g => g.setDir i fun d => { d with base := d.now, pend := [] } := by
    unfold AF.FS.syncDir;rw [he]
   rw [e];refine (step_spec W hs H1).mono ?_;rintro v h2 (⟨h0, rfl, H2⟩ | ⟨h0, rfl, H2⟩)
   · rw [DI_int, show ((60 : Int) == 0) = false from rfl, cond_false];unfold AF.FS.step;rw [if_pos h0];exact ⟨rfl, fsP_shut (A := { A with off := true }) q hq H2⟩
   · rw [DI_int, show ((0 : Int) == 0) = true from rfl, cond_true];simp only [NN'_some', addr_add0];unfold AF.FS.step;rw [if_neg h0];obtain ⟨nb, bb, a, c, H3⟩ := dir_out (H2.mv 3) hdi hfi;refine LdV (v := .map (some nb)) H3.get rfl ?_;rw [DM_map];obtain ⟨m2, hp2, H4⟩ := names_open (H3.mv 1);refine (F56_spec H4).mono ?_;rintro v h3 ⟨cb, rfl, H5⟩;rw [DM_map];have H6 : sat (pt fb (dirC nb bb a d.pend.length c) :: ownM strKeys cb m2 :: ownM strKeys nb m2 :: dirR q.xbs q.fbs A.dirs i :: rawOf b A.stepOn q.md :: ownM strKeys q.md q.m :: filesP q.xbs A.files :: F) h3 := H5.ordT 9 [2, 0, 1, 5, 6, 7, 8];refine StCC (b := fb) (i := 1) (c' := #[.map (some nb), .map (some cb), .slice a d.pend.length c]) H6 (by show 1 < 3; decide) rfl fun h4 H7 => ?_;refine StCC (b := fb) (i := 2) (c' := #[.map (some nb), .map (some cb), .slice none 0 0]) H7 (by show 2 < 3; decide) rfl fun h5 H8 => ?_;have H9 := names_shut hp2 (H8.mv 1);have H10 := names_shut hp2 (H9.mv 2);have H11 := ownL_nil (opP q.xbs) 138 H10;have H12 : sat (dirsP q.xbs q.fbs (A.dirs.set i { d with base := d.now, pend := [] }) :: rawOf b A.stepOn q.md :: ownM strKeys q.md q.m :: filesP q.xbs A.files :: F) h5 :=
      dir_in (d := { d with base := d.now, pend := [] }) (a := none) (c := 0) hdi hfi (H11.ordT 5 [3, 1, 2, 0, 4])
     have e3 : A.dirs.set i { d with base := d.now, pend := [] } = (A.stepOn.setDir i fun d => { d with base := d.now, pend := [] }).dirs := (modify_set (l := A.dirs) (fun d : AF.Dir => { d with base := d.now, pend := [] }) hdi).symm;rw [e3] at H12;have eu : (A.stepOn.setDir i fun d => { d with base := d.now, pend := [] }).used = A.stepOn.used := by
      have : (A.stepOn.setDir i fun d => { d with base := d.now, pend := [] }).idx = A.stepOn.idx := by
       unfold AF.FS.idx;rw [List.flatMap_def, List.flatMap_def];congr 1;apply List.ext_getElem?;intro j;show ((A.dirs.modify i _).map _)[j]? = (A.dirs.map _)[j]?;rw [List.getElem?_map, List.getElem?_map, get_modify]
       cases A.dirs[j]? with
       | none => rfl
       | some d' => by_cases hij : i = j <;> simp [hij]
      unfold AF.FS.used;rw [this]
      rfl
     refine ⟨rfl, fsP_shut q (fsQ_of (A := A.stepOn) hq (names_modify fun d => rfl) rfl) ?_⟩;unfold rawOf;rw [eu];exact H12.ordT 4 [1, 2, 3, 0]
 · refine ⟨none, (e : Int), rfl, ?_⟩;have e0 : e ≠ 0 := by omega
   rw [err_beq e0, cond_false, cond_false];unfold AF.FS.syncDir;rw [he];exact ⟨rfl, fsP_shut q hq H1⟩
end
theorem RdCv {F : List HProp} {h : Heap} {b0 : Nat} {e : TypeId} {cs : Array Value} {xs : List Value} (H : sat (pt b0 (.cells cs e (0, 0)) :: F) h) (hx : cs.toList = xs) : RdC h (some ⟨b0, 0, none⟩) xs := by
 intro j u hv
 rw [cell_of_pt H.get, ← hv, ← hx, Array.getElem?_toList]
theorem sortB_up {l : List ByteArray} (h : l.Pairwise fun a b => AF.ltB a b = true) : sortB l = l := by
 have tr : ∀ x y z : List UInt8, decide (x ≤ y) = true → decide (y ≤ z) = true → decide (x ≤ z) = true := fun x y z h1 h2 => by
  simp only [decide_eq_true_eq] at h1 h2 ⊢;exact List.le_trans h1 h2
 have to : ∀ x y : List UInt8, (decide (x ≤ y) || decide (y ≤ x)) = true := fun x y => by
  simp only [Bool.or_eq_true, decide_eq_true_eq];exact List.le_total x y
 have e : (l.map fun s : ByteArray => s.data.toList).mergeSort (fun x y => decide (x ≤ y)) = l.map fun s : ByteArray => s.data.toList := by
  refine List.Perm.eq_of_pairwise (le := fun x y => decide (x ≤ y) = true) ?_ (List.pairwise_mergeSort tr to _) ?_ (List.mergeSort_perm _ _)
  · intro x y _ _ h1 h2;simp only [decide_eq_true_eq] at h1 h2;exact List.le_antisymm h1 h2
  · rw [List.pairwise_map];refine h.imp fun {a b} hab => ?_;rw [AF.strLt_iff] at hab;simp only [decide_eq_true_eq];exact List.le_of_lt hab
 unfold sortB
 rw [e, List.map_map]
 conv => rhs; rw [← List.map_id l]
 exact List.map_congr_left fun s _ => by cases s; rfl
section
variable {b : Nat} {A : AF.FS} {q : FsQ} {F : List HProp} {h : Heap}
theorem F83_spec {dir k k2 : ByteArray} (W : A.WF) (hs : A.steps < 1099511627776) (hd : dir.size < 4611686018427387904) (hn : k.size < 4611686018427387904) (hn2 : k2.size < 4611686018427387904) (H : sat (fsP b A :: F) h) :
  CallsH Tryz.prog 83 [ptrV b, .string dir, .string k, .string k2] h fun v h' => v = .int .i64 ((A.rename dir k k2).2 : Int) ∧ sat (fsP b (A.rename dir k k2).1 :: F) h' := by
 obtain ⟨q, hq, H0⟩ := fsP_open H
 apply F83_ok.ap
 unfold F83
 refine Al_sat H0 fun b0 h1 H1 => Al_sat H1 fun b1 h2 H2 => ?_
 refine LdV (v := .string k) (H2.mv 1).get rfl ?_
 rw [DS_string]
 refine LdV (v := .string k2) H2.get rfl ?_
 rw [DS_string]
 refine Al_sat H2 fun b2 h3 H3 => ?_
 have H4 : sat (fs4 b A q (pt b0 (.cells #[.string k] 9 (0, 0)) :: pt b1 (.cells #[.string k2] 9 (0, 0)) :: F)) h3 := H3.ordT 7 [3, 4, 5, 6, 2, 1]
 refine (ready_spec (ss := [k, k2]) W hq H4 (RdCv H3 rfl) rfl (show 2 < 1000 by omega) hd (fun s hs => by simp at hs; rcases hs with rfl | rfl; exact hn; exact hn2)).mono ?_
 rintro v h4 ⟨rfl, hcase⟩
 have Hd : sat (fs4 b A q F) h4 := (((H4.mv 5).drop).mv 4).drop
 rcases hcase with ⟨i, d, fb, he, hdi, hfi, rfl⟩ | ⟨e, he, hne, rfl⟩
 · have w := W.each d (List.mem_of_getElem? hdi);obtain ⟨nb, bb, a, c, es, hfb, hes, hsz, hlk⟩ := dir_read (H4.mv 3) hdi hfi w.ok.up;obtain ⟨f, hf, hl⟩ := hlk k;refine ⟨some ⟨fb, 0, none⟩, 0, rfl, ?_⟩;rw [show ((0 : Int) != 0) = false from rfl, cond_false];simp only [NN'_some', addr_add0];have rd : ∀ K : Value → Prop, K (.map (some nb)) → Ld h4 ⟨fb, 0, none⟩ K := fun K hK => ⟨_, by rw [cellAt_of hfb]; rfl, hK⟩
   refine rd _ ?_;rw [DM_map];refine LdV (v := .string k) (H4.mv 4).get rfl ?_;rw [DS_string];refine ⟨es, hes, f, hf, DP_ent hl ?_⟩;have hD := AF.D_of hdi
   cases ho : AF.of d.now k with
   | none =>
     show bif (true : Bool) then _ else _
     rw [cond_true];have e : A.rename dir k k2 = (A, 62) := by
      unfold AF.FS.rename;rw [he];simp only [hD, ho, Option.isNone_none, if_true]
     rw [e];exact ⟨rfl, fsP_shut q hq Hd⟩
   | some x =>
     show bif (false : Bool) then _ else _
     rw [cond_false];have e : A.rename dir k k2 = A.step fun g => g.did i (.rename k k2) := by
      unfold AF.FS.rename;rw [he];simp only [hD, ho, Option.isNone_some, Bool.false_eq_true, if_false]
     rw [e];obtain ⟨_, _, hr, _, _⟩ := AF.ready_ok he;have ho2 : AF.of d.now k ≠ none := by rw [ho]; exact fun e => by cases e
     have K1 := ((H4.mv 4).freeze.mv 5).freeze;have K2 : sat (opP q.xbs (.rename k k2) (.func (.func 174) #[] #[ptrV b0, ptrV b1]) :: fs4 b A q F) h4 := by
      refine sat_exi.2 ⟨(b0, b1), sat.shut (m := [pur ((Value.func (.func 174) #[] #[ptrV b0, ptrV b1]) = .func (.func 174) #[] #[ptrV b0, ptrV b1]), ro b0 (.cells #[.string k] 9 (0, 0)), ro b1 (.cells #[.string k2] 9 (0, 0))]) ?_⟩;exact sat_pur.2 ⟨rfl, K1.mv 1⟩
     refine (F171_spec W (AF.rename_wf W hdi (hr k (by simp)) (hr k2 (by simp)) ho2) hq hdi hfi (AF.rename_fits (hr k (by simp)) (hr k2 (by simp)) ho2) hs (K2.bk 4)).mono ?_;rintro v h5 ⟨rfl, H5⟩;rw [DI_int];refine ⟨rfl, fsP_shut q ?_ H5⟩;unfold AF.FS.step;split
     · exact hq
     · exact fsQ_did (A := A.stepOn) hq i _
 · refine ⟨none, (e : Int), rfl, ?_⟩;have e0 : e ≠ 0 := by omega
   rw [err_bne e0, cond_true];unfold AF.FS.rename;rw [he];exact ⟨rfl, fsP_shut q hq Hd⟩
theorem F84_spec {dir k : ByteArray} (W : A.WF) (hs : A.steps < 1099511627776) (hd : dir.size < 4611686018427387904) (hn : k.size < 4611686018427387904) (H : sat (fsP b A :: F) h) :
  CallsH Tryz.prog 84 [ptrV b, .string dir, .string k] h fun v h' => v = .int .i64 ((A.remove dir k).2 : Int) ∧ sat (fsP b (A.remove dir k).1 :: F) h' := by
 obtain ⟨q, hq, H0⟩ := fsP_open H
 apply F84_ok.ap
 unfold F84
 refine Al_sat H0 fun b0 h1 H1 => ?_
 refine LdV (v := .string k) H1.get rfl ?_
 rw [DS_string]
 refine (F173_spec W hq (H1.bk 4) hd hn).mono ?_
 rintro v h2 ⟨H2, ⟨i, x, d, y, fb, xb, he, hdi, hfi, hy, hxb, rfl⟩ | ⟨e, he, e0, rfl⟩⟩
 · refine ⟨some ⟨fb, 0, none⟩, _, 0, rfl, ?_⟩;rw [show ((0 : Int) != 0) = false from rfl, cond_false];have e : A.remove dir k = A.step fun g => g.did i (.remove k) := by
    unfold AF.FS.remove;rw [he]
   rw [e];obtain ⟨hrd, _⟩ := AF.entry_ok he;obtain ⟨_, _, hr, _, _⟩ := AF.ready_ok hrd;have K2 : sat (opP q.xbs (.remove k) (.func (.func 175) #[] #[ptrV b0]) :: fs4 b A q F) h2 := by
    refine sat_exi.2 ⟨b0, sat.shut (m := [pur ((Value.func (.func 175) #[] #[ptrV b0]) = .func (.func 175) #[] #[ptrV b0]), ro b0 (.cells #[.string k] 9 (0, 0))]) ?_⟩;exact sat_pur.2 ⟨rfl, (H2.mv 4).freeze⟩
   refine (F171_spec W (AF.remove_wf W hdi (hr k (by simp))) hq hdi hfi (hr k (by simp)) hs (K2.bk 4)).mono ?_;rintro v h5 ⟨rfl, H5⟩;rw [DI_int];refine ⟨rfl, fsP_shut q ?_ H5⟩;unfold AF.FS.step;split
   · exact hq
   · exact fsQ_did (A := A.stepOn) hq i _
 · refine ⟨none, none, (e : Int), rfl, ?_⟩;rw [err_bne e0, cond_true];unfold AF.FS.remove;rw [he];exact ⟨rfl, fsP_shut q hq (H2.mv 4).drop⟩
theorem F176_spec {a : Option Addr} {l c : Nat} {xs : List Nat} (hl : l ≤ 140737488355328) (H : sat (ownS 5 1 a l c (xs.map nv) :: F) h) :
  CallsH Tryz.prog 176 [.slice a l c] h fun v h' => ∃ (a2 : Option Addr) (c2 : Nat), v = .slice a2 l c2 ∧ sat (ownS 5 1 a2 l c2 (xs.map nv) :: ownS 5 1 a l c (xs.map nv) :: F) h' := by
 apply F176_ok.ap
 unfold F176
 cases a with
 | none =>
   obtain ⟨hxl, ⟨_, rfl, rfl, hx, H1⟩ | ⟨_, _, _, e, _⟩⟩ := ownS_cases H
   · refine ⟨none, 0, rfl, ?_⟩;rw [hx];exact ownS_nil 5 1 (ownS_nil 5 1 H1)
   · cases e
 | some a =>
   rw [show (some a).isNone = false from rfl, cond_false];have hlen := ownS_len H;refine Al_sat H fun b0 h1 H1 => ?_;have H2 : sat (ownS 5 1 (some ⟨b0, 0, none⟩) 0 0 (([] : List Nat).map nv) :: ownS 5 1 (some a) l c (xs.map nv) :: F) h1 := ownS_mk H1 (fun i hi => by simp at hi) (Nat.le_refl _) (Nat.zero_le _) rfl rfl;refine appB (ys := xs) u31 src31 inf5 H2 (srcB (ownS_read (H2.mv 1)) (by have := hlen.1; simpa using this)) (by omega) fun a2 c2 h2 _ H3 => ?_;rw [DSl_slice];rw [Nat.zero_add, List.nil_append] at H3;exact ⟨a2, c2, by rw [Nat.zero_add], H3⟩
theorem F103_spec {dir name : ByteArray} (W : A.WF) (hd : dir.size < 4611686018427387904) (hn : name.size < 4611686018427387904) (H : sat (fsP b A :: F) h) :
  CallsH Tryz.prog 103 [ptrV b, .string dir, .string name] h fun v h' =>
   (∃ (bs : List Nat) (a : Option Addr) (c : Nat), A.read dir name = .ok bs ∧ B8 bs ∧ bs.length ≤ 16777216 ∧ v = .tuple #[.slice a bs.length c, .int .i64 0] ∧ sat (ownS 5 1 a bs.length c (bs.map nv) :: fsP b A :: F) h') ∨
   (∃ e : Nat, A.read dir name = .error e ∧ e ≠ 0 ∧ v = .tuple #[.slice none 0 0, .int .i64 (e : Int)] ∧ sat (fsP b A :: F) h') := by
 obtain ⟨q, hq, H0⟩ := fsP_open H
 apply F103_ok.ap
 unfold F103
 refine (F173_spec W hq H0 hd hn).mono ?_
 rintro v h1 ⟨H1, ⟨i, x, d, y, fb, xb, he, hdi, hfi, hy, hxb, rfl⟩ | ⟨e, he, e0, rfl⟩⟩
 · refine ⟨_, some ⟨xb, 0, none⟩, 0, rfl, ?_⟩;rw [show ((0 : Int) != 0) = false from rfl, cond_false];simp only [NN'_some', addr_add0];have wy := W.files y (List.mem_of_getElem? hy);obtain ⟨a, c, H3⟩ := file_out (H1.mv 2) hy hxb;refine LdV (v := .slice a y.b.length c) H3.get rfl ?_;rw [DSl_slice];refine (F176_spec (by omega) (H3.mv 1)).mono ?_;rintro v h2 ⟨a2, c2, rfl, H4⟩;rw [DSl_slice];refine .inl ⟨y.b, a2, c2, ?_, wy.2.2, wy.2.1, rfl, ?_⟩
   · unfold AF.FS.read;rw [he];simp only [AF.X_of hy]
   · -- copy, ownS, pt xb, fileR, raw, ownM, dirs
     have H5 := file_in hy hxb (H4.ordT 7 [2, 1, 3, 0, 4, 5, 6]);rw [set_self hy] at H5;have H6 : sat (fs4 b A q (ownS 5 1 a2 y.b.length c2 (y.b.map nv) :: F)) h2 := H5.ordT 5 [2, 3, 0, 4, 1];exact (fsP_shut q hq H6).mv 1
 · refine ⟨none, none, (e : Int), rfl, ?_⟩;rw [err_bne e0, cond_true];refine .inr ⟨e, ?_, e0, rfl, fsP_shut q hq H1⟩;unfold AF.FS.read;rw [he]
theorem up_names {l : AF.Names} (h : AF.Up l) : (l.map (·.1)).Pairwise fun a b => AF.ltB a b = true := List.pairwise_map.2 h
theorem F16_spec {dir : ByteArray} (W : A.WF) (hd : dir.size < 4611686018427387904) (H : sat (fsP b A :: F) h) :
  CallsH Tryz.prog 16 [ptrV b, .string dir] h fun v h' =>
   (∃ (ks : List ByteArray) (a : Option Addr) (c : Nat), A.list dir = .ok ks ∧ (∀ k ∈ ks, AF.right k = true) ∧ ks.length ≤ 4096 ∧ v = .tuple #[.slice a ks.length c, .int .i64 0] ∧ sat (ownS 9 1 a ks.length c (ks.map Value.string) :: fsP b A :: F) h') ∨
   (∃ e : Nat, A.list dir = .error e ∧ e ≠ 0 ∧ v = .tuple #[.slice none 0 0, .int .i64 (e : Int)] ∧ sat (fsP b A :: F) h') := by
 obtain ⟨q, hq, H1⟩ := fsP_open H
 apply F16_ok.ap
 unfold F16
 refine (ready_spec (ss := []) (a := none) (c := 0) W hq H1 rfl rfl (show 0 < 1000 by omega) hd (by simp)).mono ?_
 rintro v h1 ⟨rfl, hcase⟩
 rcases hcase with ⟨i, d, fb, he, hdi, hfi, rfl⟩ | ⟨e, he, hne, rfl⟩
 · refine ⟨some ⟨fb, 0, none⟩, 0, rfl, ?_⟩;rw [show ((0 : Int) != 0) = false from rfl, cond_false];simp only [NN'_some', addr_add0];have w := W.each d (List.mem_of_getElem? hdi);obtain ⟨nb, bb, a, c, H3⟩ := dir_out (H1.mv 3) hdi hfi;refine LdV (v := .map (some nb)) H3.get rfl ?_;rw [DM_map];refine (F52_spec H3).mono ?_;rintro v h2 ⟨cb, rfl, H4⟩;refine ⟨_, rfl, ?_⟩;obtain ⟨m2, hp2, H5⟩ := names_open (H4.mv 2);have hml : m2.length = d.now.length := by rw [hp2.length_eq, List.length_map]
   have hfew := w.ok.few;refine (F51_spec (H5.mv 1) (by omega)).mono ?_;rintro v h3 ⟨a3, c3, rfl, H6⟩;rw [DSl_slice];have ek : sortB (m2.map (·.1)) = d.now.map (·.1) := by
    rw [sortB_perm (hp2.map (·.1)), ent_keys, sortB_up (up_names w.ok.up)]
   rw [ek] at H6;refine .inl ⟨d.now.map (·.1), a3, c3, ?_, ?_, by rw [List.length_map]; exact hfew, by rw [List.length_map, hml], ?_⟩
   · unfold AF.FS.list;rw [he];simp only [AF.D_of hdi]
   · intro k hk;obtain ⟨p, hp, rfl⟩ := List.mem_map.1 hk;exact (w.ok.each p hp).2
   · rw [List.length_map, ← hml];have H7 := names_shut hp2 (H6.mv 1);have H8 := dir_in (d := d) hdi hfi (H7.ordT 9 [2, 0, 3, 4, 5, 1, 6, 7, 8]);rw [set_self hdi] at H8;have H9 : sat (fs4 b A q (ownS 9 1 a3 m2.length c3 ((d.now.map (·.1)).map Value.string) :: F)) h3 := H8.ordT 5 [2, 3, 4, 0, 1];exact (fsP_shut q hq H9).mv 1
 · refine ⟨none, (e : Int), rfl, ?_⟩;have e0 : e ≠ 0 := by omega
   rw [err_bne e0, cond_true];refine .inr ⟨e, ?_, e0, rfl, fsP_shut q hq H1⟩;unfold AF.FS.list;rw [he]
theorem F55_raw {room used steps fuse : Int} {off : Bool} (W : A.WF) (hq : fsQ A q) (H : sat (rawFS b room used steps fuse off q.md :: ownM strKeys q.md q.m :: F) h) :
  CallsH Tryz.prog 55 [ptrV b] h fun v h' => ∃ (a : Option Addr) (c : Nat), v = .slice a A.dirs.length c ∧ sat (ownS 9 1 a A.dirs.length c ((A.dirs.map (·.name)).map Value.string) :: rawFS b room used steps fuse off q.md :: ownM strKeys q.md q.m :: F) h' := by
 apply F55_ok.ap
 unfold F55
 rw [show (some (⟨b, 0, none⟩ : Addr)).isNone = false from rfl, cond_false]
 simp only [NN'_some']
 refine LdC (v := .map (some q.md)) H rfl ?_
 rw [DM_map]
 refine (F149_spec H).mono ?_
 rintro v h2 ⟨cb, rfl, H4⟩
 refine ⟨_, rfl, ?_⟩
 have hml : q.m.length = A.dirs.length := by have := (dirs_keys hq).length_eq; simpa using this
 have hfew := W.few
 refine (F51_specD (H4.ordT 3 [0, 2, 1]) (by omega)).mono ?_
 rintro v h3 ⟨a3, c3, rfl, H6⟩
 rw [DSl_slice]
 have ek : sortB (q.m.map (·.1)) = A.dirs.map (·.name) := by
  rw [sortB_perm (dirs_keys hq), sortB_up (List.pairwise_map.2 W.up)]
 rw [ek, hml] at H6
 exact ⟨a3, c3, by rw [hml], H6.ordT 3 [0, 2, 1]⟩
theorem F18_spec {n : Int} (H : sat (fsP b A :: F) h) : CallsH Tryz.prog 18 [ptrV b, .int .i64 n] h fun v h' => v = .int .i64 ((A.setFuse n).2 : Int) ∧ sat (fsP b (A.setFuse n).1 :: F) h' := by
 obtain ⟨q, hq, H1⟩ := fsP_open H
 apply F18_ok.ap
 unfold F18 AF.FS.setFuse
 rw [show (some (⟨b, 0, none⟩ : Addr)).isNone = false from rfl, cond_false]
 by_cases hn : n < 0
 · rw [decide_eq_true hn, cond_true, if_pos hn];exact ⟨rfl, H⟩
 · rw [decide_eq_false hn, cond_false, if_neg hn];simp only [NN'_some', addr_add0];refine StCC (b := b) (i := 3) (c' := #[.int .i64 (A.room : Int), .int .i64 (A.used : Int), .int .i64 (A.steps : Int), .int .i64 n, .bool A.off, .map (some q.md)]) H1 (by show 3 < 6; decide) rfl fun h1 H2 => ?_;refine ⟨rfl, fsP_shut (A := { A with fuse := some n.toNat }) q hq ?_⟩;have e : fuseI (some n.toNat) = n := by show ((n.toNat : Nat) : Int) = n; omega
   show sat (rawFS b (A.room : Int) (A.used : Int) (A.steps : Int) (fuseI (some n.toNat)) A.off q.md :: _) h1;rw [e];exact H2
end
structure Pks (F : List HProp) (ps : List Int) (a : Option Addr) (l c : Nat) : Prop where
 len : ps.length = l
 cap : l ≤ c
 read : ∀ h', sat F h' → RdC h' a (ps.map iv)
abbrev cellS (b0 : Nat) (a : Option Addr) (l c : Nat) : HProp := pt b0 (.cells #[.slice a l c] 51 (0, 0))
section
variable {b : Nat} {A : AF.FS} {q : FsQ} {F G : List HProp} {h : Heap}
theorem F54_spec {b0 n : Nat} {ps : List Int} {a : Option Addr} {l c : Nat} (hn : n < 4611686018427387904) (hp : Pks F ps a l c) (hF : sat F h) (H : sat (cellS b0 a l c :: G) h) :
  CallsH Tryz.prog 54 [.int .i64 (n : Int), ptrV b0] h fun v h' => v = .int .i64 ((AF.pick ps n).1 : Int) ∧ ∃ a2 l2 c2, Pks F (AF.pick ps n).2 a2 l2 c2 ∧ sat (cellS b0 a2 l2 c2 :: G) h' := by
 apply F54_ok.ap
 unfold F54
 refine LdV (v := .slice a l c) H.get rfl ?_
 rw [DSl_slice]
 have hl := hp.len
 cases ps with
 | nil =>
   have : l = 0 := hl.symm;subst this;rw [show (((0 : Nat) : Int) == 0) = true from rfl, cond_true];exact ⟨rfl, a, 0, c, hp, H⟩
 | cons p ps =>
   rw [List.length_cons] at hl;rw [err_beq (show l ≠ 0 by omega), cond_false];refine LdV (v := .slice a l c) H.get rfl ?_;rw [DSl_slice];have hr := hp.read h hF;refine IdxA_nat (i := 0) (v := iv p) hr (by rw [List.length_map, List.length_cons]; exact hl) rfl fun ba hba hc => ⟨_, hc, ?_⟩
   show DI .i64 (.int .i64 p) _;rw [DI_int];refine LdV (v := .slice a l c) H.get rfl ?_;rw [DSl_slice];have hcap := hp.cap;refine SlV_nat (lo := 1) (hi := l) (mx := c) (by omega) hcap (Nat.le_refl _) ?_;rw [addr_add0];refine stV H fun h1 H1 => ?_;have w1 : IntKind.wrap .i64 ((n : Int) + 1) = ((n + 1 : Nat) : Int) := wrap64_succ (by omega);have w2 : IntKind.wrap .u64 ((n + 1 : Nat) : Int) = ((n + 1 : Nat) : Int) := IntWalk.u64_in _ (by omega);rw [w1, w2];refine ⟨by omega, ?_, subA a 1 c 1, l - 1, c - 1, ⟨by show ps.length = l - 1; omega, by omega, fun h' hh => ?_⟩, H1⟩
   · have hu : ∃ m : Nat, IntKind.wrap .u64 p = (m : Int) := by
      rw [IntKind.wrap_u64];exact ⟨(p % 18446744073709551616).toNat, by omega⟩
     obtain ⟨m, hm⟩ := hu;have hlt : m % (n + 1) < n + 1 := Nat.mod_lt m (Nat.succ_pos n);rw [hm, tmod_nat, wrap64_nat (by omega)];show Value.int .i64 _ = .int .i64 (((IntKind.wrap .u64 p).toNat % (n + 1) : Nat) : Int);rw [hm, Int.toNat_natCast]
   · have := (hp.read h' hh).sub 1 (l - 1) c (by omega);have e : ((List.map iv (p :: ps)).drop 1).take (l - 1) = ps.map iv := by
      rw [List.map_cons, List.drop_one, List.tail_cons, List.take_of_length_le (by rw [List.length_map]; omega)]
     rw [e] at this;exact this
theorem lk_at (W : A.WF) (hq : fsQ A q) {i : Nat} {d : AF.Dir} {fb : Nat} (hd : A.dirs[i]? = some d) (hf : q.fbs[i]? = some fb) : lkM q.m d.name = some (ptrV fb) :=
 mem_lkM (dirs_nodup W hq) ((dirs_mem hq).2 ⟨i, d, fb, hd, hf, rfl, rfl⟩)
theorem findM {mb fb : Nat} {m : List (ByteArray × Value)} {k : ByteArray} {K : Option Addr → Prop} (H : sat (ownM strKeys mb m :: F) h) (hk : lkM m k = some (ptrV fb)) (hK : K (some ⟨fb, 0, none⟩)) :
  ∃ es : Array MapEntry, mapEs h (some mb) es ∧ ∃ f, Instr.findNow .string (.string k) es.toList 0 = some f ∧ DP ((Option.map (fun x => x.2) f).getD (.pointer none)) K := by
 obtain ⟨es, clock, hm, hes⟩ := mapEs_ownM H
 obtain ⟨f, hf, hl, _⟩ := hm.find k
 refine ⟨es, hes, f, hf, ?_⟩
 rw [hl, hk]
 exact ⟨_, rfl, hK⟩
theorem subA_zero (a : Option Addr) (mx sz : Nat) : subA a 0 mx sz = a := by
 unfold subA
 split
 · rfl
 · cases a with
   | none => rfl
   | some a => simp
theorem ownS_cut {e l c k : Nat} {a : Option Addr} {xs : List Value} (hk : k ≤ l) (H : sat (ownS e 1 a l c xs :: F) h) : sat (ownS e 1 a k c (xs.take k) :: F) h := by
 obtain ⟨hl, ⟨rfl, rfl, rfl, rfl, H2⟩ | ⟨b', cells, fr, rfl, hlc, hcm, hcs, hfr, ht, H2⟩⟩ := ownS_cases H
 · have : k = 0 := by omega
   subst this;exact ownS_nil e 1 H2
 · refine ownS_mk H2 hfr (by omega) hcm hcs ?_;rw [← ht, List.take_take, Nat.min_eq_left (by omega), Nat.mul_one]
theorem crashDirs_append : ∀ (ds es : List AF.Dir) (l : List Int), AF.crashDirs (ds ++ es) l = ((AF.crashDirs ds l).1 ++ (AF.crashDirs es (AF.crashDirs ds l).2).1, (AF.crashDirs es (AF.crashDirs ds l).2).2)
 | [], es, l => rfl
 | d :: ds, es, l => by
   rw [List.cons_append];simp only [AF.crashDirs];rw [crashDirs_append ds es]
   rfl
theorem crashFiles_append : ∀ (xs ys : List Nat) (fs : List AF.File) (l : List Int), AF.crashFiles (xs ++ ys) fs l = AF.crashFiles ys (AF.crashFiles xs fs l).1 (AF.crashFiles xs fs l).2
 | [], ys, fs, l => rfl
 | x :: xs, ys, fs, l => by
   rw [List.cons_append];simp only [AF.crashFiles];rw [crashFiles_append xs ys]
theorem crashDirs_names : ∀ (ds : List AF.Dir) (l : List Int), (AF.crashDirs ds l).1.map (·.name) = ds.map (·.name)
 | [], l => rfl
 | d :: ds, l => by simp only [AF.crashDirs, List.map_cons]; rw [crashDirs_names ds]
def cutDir (d : AF.Dir) (k : Nat) : AF.Dir := ⟨d.name, AF.play d.base (d.pend.take k), AF.play d.base (d.pend.take k), []⟩
def dirsAt (A : AF.FS) (ps : List Int) (i : Nat) : List AF.Dir := (AF.crashDirs (A.dirs.take i) ps).1 ++ A.dirs.drop i
def picksAt (A : AF.FS) (ps : List Int) (i : Nat) : List Int := (AF.crashDirs (A.dirs.take i) ps).2
theorem dirsAt_get {ps : List Int} {i : Nat} {d : AF.Dir} (hd : A.dirs[i]? = some d) : (dirsAt A ps i)[i]? = some d := by
 have hi := (List.getElem?_eq_some_iff.1 hd).1
 unfold dirsAt
 rw [List.getElem?_append_right (by rw [AF.crashDirs_length, List.length_take]; omega), AF.crashDirs_length, List.length_take, List.getElem?_drop, ← hd]
 congr 1
 omega
theorem dirsAt_next {ps : List Int} {i : Nat} {d : AF.Dir} (hd : A.dirs[i]? = some d) :
  dirsAt A ps (i + 1) = (dirsAt A ps i).set i (cutDir d (AF.pick (picksAt A ps i) d.pend.length).1) ∧ picksAt A ps (i + 1) = (AF.pick (picksAt A ps i) d.pend.length).2 := by
 have hi := (List.getElem?_eq_some_iff.1 hd).1
 have ht : A.dirs.take (i + 1) = A.dirs.take i ++ [d] := by rw [List.take_add_one, hd]; rfl
 unfold dirsAt picksAt
 rw [ht, crashDirs_append]
 refine ⟨?_, rfl⟩
 have hdr : A.dirs.drop i = d :: A.dirs.drop (i + 1) := by
  rw [List.drop_eq_getElem_cons hi];congr 1;rw [List.getElem?_eq_getElem hi] at hd;exact Option.some.inj hd
 rw [hdr, List.set_append_right _ _ (by rw [AF.crashDirs_length, List.length_take]; omega), AF.crashDirs_length, List.length_take, show i - min i A.dirs.length = 0 by omega, List.set_cons_zero, List.append_assoc]
 rfl
end
section
variable {b : Nat} {A : AF.FS} {q : FsQ} {F : List HProp} {h : Heap}
def filesAt (A : AF.FS) (ps : List Int) (xs : List Nat) : List AF.File × List Int := AF.crashFiles xs A.files (picksAt A ps A.dirs.length)
theorem crash_dirs (ps : List Int) : (A.crash ps).dirs = dirsAt A ps A.dirs.length := by
 unfold AF.FS.crash dirsAt
 rw [List.take_length, List.drop_length, List.append_nil]
theorem crash_files (ps : List Int) : (A.crash ps).files = (filesAt A ps (A.crash ps).idx).1 := by
 unfold filesAt picksAt
 rw [List.take_length]
 rfl
theorem crash_names (ps : List Int) : (A.crash ps).dirs.map (·.name) = A.dirs.map (·.name) := crashDirs_names A.dirs ps
theorem filesAt_next {ps : List Int} {xs : List Nat} {x : Nat} {y : AF.File} (hy : (filesAt A ps xs).1[x]? = some y) :
  filesAt A ps (xs ++ [x]) = ((filesAt A ps xs).1.set x ⟨y.b.take (y.safe + (AF.pick (filesAt A ps xs).2 (y.b.length - y.safe)).1), y.safe + (AF.pick (filesAt A ps xs).2 (y.b.length - y.safe)).1⟩, (AF.pick (filesAt A ps xs).2 (y.b.length - y.safe)).2) := by
 have hg : (filesAt A ps xs).1.getD x default = y := by rw [List.getD_eq_getElem?_getD, hy]; rfl
 have : filesAt A ps (xs ++ [x]) = AF.crashFiles [x] (filesAt A ps xs).1 (filesAt A ps xs).2 := by unfold filesAt; rw [crashFiles_append]
 rw [this]
 simp only [AF.crashFiles, hg]
theorem filesAt_ok (W : A.WF) (ps : List Int) (xs : List Nat) : ∀ y ∈ (filesAt A ps xs).1, AF.FileOk y := AF.crashFiles_ok W.files
theorem filesAt_length (ps : List Int) (xs : List Nat) : (filesAt A ps xs).1.length = A.files.length := AF.crashFiles_length _ _ _
theorem fsQ_crash (hq : fsQ A q) (ps : List Int) : fsQ (A.crash ps) q := fsQ_of hq (crash_names ps) (by rw [crash_files, filesAt_length])
abbrev rawC (b : Nat) (A : AF.FS) (q : FsQ) : HProp := rawOf b A q.md
theorem sat_pack {B : HProp} {L : List HProp} (H : sat (B :: (L ++ F)) h) : sat (B :: Many L :: F) h := let ⟨r, hr, hs⟩ := H; ⟨r, sep_mono (fun _ h => h) (fun _ h => star_append.1 h) hr, hs⟩
theorem vs_call {xbs : List Nat} {bb n j : Nat} {l : AF.Names} {os : List AF.Op} {vs : List Value} {o : AF.Op} {v : Value} (hl : vs.length = os.length) (ho : os[j]? = some o) (hv : vs[j]? = some v)
  (H : sat (namesP xbs bb l :: Many (List.zipWith (opP xbs) os vs) :: F) h) (hk : AF.Ok n l) (hf : AF.Fits n l o) :
  CallV Tryz.prog v [.map (some bb)] h fun r h' => r = .tuple #[] ∧ sat (namesP xbs bb (AF.does l o) :: Many (List.zipWith (opP xbs) os vs) :: F) h' := by
 have H2 := many_out (H.mv 1) ho hv
 refine (op_call (H2.ordT 3 [2, 0, 1]) hk hf).mono ?_
 rintro r h' ⟨rfl, H3⟩
 exact ⟨rfl, (many_back ho hv (H3.ordT 3 [1, 2, 0])).mv 1⟩
theorem F19_spec {ps : List Int} {pa : Option Addr} {pl pc : Nat} (W : A.WF) (hp : Pks F ps pa pl pc) (hs : A.steps < 1099511627776) (H : sat (fsP b A :: F) h) :
  CallsH Tryz.prog 19 [ptrV b, .slice pa pl pc] h fun v h' => v = .int .i64 0 ∧ sat (fsP b (A.crash ps) :: F) h' := by
 obtain ⟨q, hq, H0⟩ := fsP_open H
 have W2 := W.crash ps
 have hq2 := fsQ_crash hq ps
 have hfew := W.few
 apply F19_ok.ap
 unfold F19
 refine Al_sat H0 fun b0 h1 H1 => ?_
 rw [show (some (⟨b, 0, none⟩ : Addr)).isNone = false from rfl, cond_false]
 refine (F55_raw W hq (H1.bk 4)).mono ?_
 rintro v h2 ⟨na, nc, rfl, H2⟩
 rw [DSl_slice]
 refine ⟨fun st hh => ∃ i, st = ((i : Nat) : Int) ∧ i ≤ A.dirs.length ∧ ∃ (a : Option Addr) (l c : Nat), Pks F (picksAt A ps i) a l c ∧
   sat (cellS b0 a l c :: ownS 9 1 na A.dirs.length nc ((A.dirs.map (·.name)).map Value.string) :: rawC b A q :: ownM strKeys q.md q.m :: filesP q.xbs A.files :: dirsP q.xbs q.fbs (dirsAt A ps i) :: F) hh,
  fun st _ => ((A.dirs.length : Int) - st).toNat, ⟨0, rfl, Nat.zero_le _, pa, pl, pc, hp, H2.ordT 6 [5, 0, 1, 2, 3, 4]⟩, ?_⟩
 rintro st h3 ⟨i, rfl, hi, a, l, c, hpk, H3⟩
 by_cases hlt : i < A.dirs.length
 · rw [decide_eq_true (show ((i : Int) < (A.dirs.length : Int)) by omega), cond_true];obtain ⟨d, hdi⟩ : ∃ d, A.dirs[i]? = some d := ⟨_, List.getElem?_eq_getElem hlt⟩
   obtain ⟨fb, hfi⟩ := fb_of hq hdi;have w := W.each d (List.mem_of_getElem? hdi);have hpl := w.pend;have hnm : ((A.dirs.map (·.name)).map Value.string)[i]? = some (.string d.name) := by rw [List.getElem?_map, List.getElem?_map, hdi]; rfl
   refine IdxA_nat (v := .string d.name) (ownS_read (H3.mv 1)) (by rw [List.length_map, List.length_map]) hnm fun ba hba hc => ⟨_, hc, ?_⟩
   show DS (.string d.name) _;rw [DS_string];simp only [NN'_some', addr_add0];refine LdC (b := b) (v := .map (some q.md)) (H3.mv 2) rfl ?_;rw [DM_map];refine findM (H3.mv 3) (lk_at W hq hdi hfi) ?_;simp only [NN'_some', addr_add0];obtain ⟨nb, bb, oa, oc, H4⟩ := dir_out (H3.mv 5) (dirsAt_get hdi) hfi;refine LdC (b := fb) (i := 2) (v := .slice oa d.pend.length oc) H4 rfl ?_;rw [DSl_slice];refine LdC (b := fb) (i := 2) (v := .slice oa d.pend.length oc) H4 rfl ?_;rw [DSl_slice];refine (F54_spec (n := d.pend.length) (by omega) hpk (H4.rest 10) (H4.mv 5)).mono ?_;rintro v h4 ⟨rfl, a2, l2, c2, hpk2, H5⟩;rw [DI_int];refine ⟨rfl, rfl, rfl, ?_⟩;refine ⟨LdC (b := fb) (i := 2) (v := .slice oa d.pend.length oc) (H5.mv 1) rfl (by rw [DSl_slice]; rfl), rfl, ?_⟩;have hple := AF.pick_le (picksAt A ps i) d.pend.length;generalize hk : (AF.pick (picksAt A ps i) d.pend.length).1 = k at hple;have hol := ownL_len (H5.mv 4);refine SlV_nat (lo := 0) (hi := k) (mx := oc) (Nat.zero_le _) (by omega) (Nat.le_refl _) ?_;rw [subA_zero, Nat.sub_zero];obtain ⟨vs, hvl, H6⟩ := ownL_open (H5.mv 4);have H7 : sat (Many (List.zipWith (opP q.xbs) d.pend vs) :: ownS 138 1 oa d.pend.length oc vs :: cellS b0 a2 l2 c2 :: pt fb (dirC nb bb oa d.pend.length oc) :: namesP q.xbs nb d.now :: namesP q.xbs bb d.base :: dirR q.xbs q.fbs (dirsAt A ps i) i ::
    ownS 9 1 na A.dirs.length nc ((A.dirs.map (·.name)).map Value.string) :: rawC b A q :: ownM strKeys q.md q.m :: filesP q.xbs A.files :: F) h4 := by
    have K : sat (ownS 138 1 oa d.pend.length oc vs :: Many (List.zipWith (opP q.xbs) d.pend vs) :: _) h4 := sat_pack H6;exact K.mv 1
   refine ⟨fun st hh => ∃ j, st = ((j : Nat) : Int) ∧ j ≤ k ∧ sat (Many (List.zipWith (opP q.xbs) d.pend vs) :: ownS 138 1 oa d.pend.length oc vs :: cellS b0 a2 l2 c2 :: pt fb (dirC nb bb oa d.pend.length oc) :: namesP q.xbs nb d.now :: namesP q.xbs bb (AF.play d.base (d.pend.take j)) :: dirR q.xbs q.fbs (dirsAt A ps i) i ::
    ownS 9 1 na A.dirs.length nc ((A.dirs.map (·.name)).map Value.string) :: rawC b A q :: ownM strKeys q.md q.m :: filesP q.xbs A.files :: F) hh,
    fun st _ => ((k : Int) - st).toNat, ⟨0, rfl, Nat.zero_le _, H7⟩, ?_⟩
   rintro st h5 ⟨j, rfl, hj, H8⟩;by_cases hjk : j < k
   · rw [decide_eq_true (show ((j : Int) < (k : Int)) by omega), cond_true];obtain ⟨o, ho⟩ : ∃ o, d.pend[j]? = some o := ⟨_, List.getElem?_eq_getElem (by omega)⟩
     obtain ⟨v, hv⟩ : ∃ v, vs[j]? = some v := ⟨_, List.getElem?_eq_getElem (by omega)⟩
     have hrd : RdC h5 oa (vs.take k) := by
      have := (ownS_read (H8.mv 1)).sub 0 k oc (by omega)
      rwa [subA_zero, List.drop_zero] at this
     refine IdxA_nat (v := v) hrd (by rw [List.length_take]; omega) (by rw [List.getElem?_take, if_pos hjk]; exact hv) fun ba2 hba2 hc2 => ⟨_, hc2, ?_⟩
     refine ⟨v, rfl, ?_⟩;refine LdC (b := fb) (i := 1) (v := .map (some bb)) (H8.mv 3) rfl ?_;rw [DM_map];obtain ⟨hok, hfit⟩ := w.runs.at j ho;refine (vs_call hvl ho hv (H8.ordT 11 [5, 0, 1, 2, 3, 4, 6, 7, 8, 9, 10]) hok hfit).mono ?_;rintro r h6 ⟨rfl, H9⟩;refine ⟨rfl, ⟨j + 1, wrap64_succ (by omega), by omega, ?_⟩, ?_⟩
     · have e : AF.play d.base (d.pend.take (j + 1)) = AF.does (AF.play d.base (d.pend.take j)) o := by
        rw [List.take_add_one, ho];exact AF.play_snoc _ _ _
       rw [e];exact H9.ordT 11 [1, 2, 3, 4, 5, 0, 6, 7, 8, 9, 10]
     · rw [wrap64_succ (by omega)];show ((k : Int) - ((j + 1 : Nat) : Int)).toNat < ((k : Int) - (j : Int)).toNat;omega
   · have ejk : j = k := by omega
     subst ejk;rw [decide_eq_false (by omega), cond_false];refine LdC (b := fb) (i := 1) (v := .map (some bb)) (H8.mv 3) rfl ?_;rw [DM_map];obtain ⟨m2, hp2, H9⟩ := names_open (H8.mv 5);refine (F56_spec H9).mono ?_;rintro v h6 ⟨cb, rfl, H10⟩;rw [DM_map];have H11 : sat (pt fb (dirC nb bb oa d.pend.length oc) :: ownM strKeys cb m2 :: ownM strKeys bb m2 :: dirR q.xbs q.fbs (dirsAt A ps i) i :: cellS b0 a2 l2 c2 :: ownS 9 1 na A.dirs.length nc ((A.dirs.map (·.name)).map Value.string) :: rawC b A q :: ownM strKeys q.md q.m :: filesP q.xbs A.files :: F) h6 :=
      H10.ordT 12 [5, 0, 1, 7, 4, 8, 9, 10, 11]
     refine StCC (b := fb) (i := 0) (c' := #[.map (some cb), .map (some bb), .slice oa d.pend.length oc]) H11 (by show 0 < 3; decide) rfl fun h7 H12 => ?_;refine StCC (b := fb) (i := 2) (c' := #[.map (some cb), .map (some bb), .slice none 0 0]) H12 (by show 2 < 3; decide) rfl fun h8 H13 => ?_;have H14 := names_shut hp2 (H13.mv 1);have H15 := names_shut hp2 (H14.mv 2);have H16 := ownL_nil (opP q.xbs) 138 H15;have H17 : sat (dirsP q.xbs q.fbs ((dirsAt A ps i).set i (cutDir d j)) :: cellS b0 a2 l2 c2 :: ownS 9 1 na A.dirs.length nc ((A.dirs.map (·.name)).map Value.string) :: rawC b A q :: ownM strKeys q.md q.m :: filesP q.xbs A.files :: F) h8 :=
      dir_in (d := cutDir d j) (a := none) (c := 0) (dirsAt_get hdi) hfi (H16.ordT 5 [3, 2, 1, 0, 4])
     obtain ⟨en1, en2⟩ := dirsAt_next (ps := ps) hdi;rw [hk] at en1;rw [← en1] at H17;rw [← en2] at hpk2;refine ⟨⟨i + 1, wrap64_succ (by omega), by omega, a2, l2, c2, hpk2, H17.ordT 6 [1, 2, 3, 4, 5, 0]⟩, ?_⟩;rw [wrap64_succ (by omega)];show ((A.dirs.length : Int) - ((i + 1 : Nat) : Int)).toNat < ((A.dirs.length : Int) - (i : Int)).toNat;omega
 · have ei : i = A.dirs.length := by omega
   subst ei;rw [decide_eq_false (by omega), cond_false];rw [← crash_dirs] at H3;have hlen2 : (A.crash ps).dirs.length = A.dirs.length := by have := congrArg List.length (crash_names (A := A) ps); simpa using this
   refine (F55_raw W2 hq2 (H3.ordT 6 [2, 3, 4, 5, 0])).mono ?_;rintro v h4 ⟨na2, nc2, rfl, H4⟩;rw [DSl_slice];have idxTo : ∀ i, List Nat := fun i => ((A.crash ps).dirs.take i).flatMap fun d => d.now.map (·.2);refine ⟨fun st hh => ∃ i, st = ((i : Nat) : Int) ∧ i ≤ (A.crash ps).dirs.length ∧ ∃ (a : Option Addr) (l c : Nat), Pks F (filesAt A ps (((A.crash ps).dirs.take i).flatMap fun d => d.now.map (·.2))).2 a l c ∧
    sat (cellS b0 a l c :: ownS 9 1 na2 (A.crash ps).dirs.length nc2 (((A.crash ps).dirs.map (·.name)).map Value.string) :: rawC b A q :: ownM strKeys q.md q.m :: filesP q.xbs (filesAt A ps (((A.crash ps).dirs.take i).flatMap fun d => d.now.map (·.2))).1 :: dirsP q.xbs q.fbs (A.crash ps).dirs :: F) hh,
    fun st _ => (((A.crash ps).dirs.length : Int) - st).toNat, ⟨0, rfl, Nat.zero_le _, a, l, c, hpk, H4.ordT 6 [5, 0, 1, 2, 3, 4]⟩, ?_⟩
   rintro st h5 ⟨i, rfl, hi2, a3, l3, c3, hpk3, H5⟩;by_cases hlt2 : i < (A.crash ps).dirs.length
   · rw [decide_eq_true (show ((i : Int) < ((A.crash ps).dirs.length : Int)) by omega), cond_true];obtain ⟨d, hdi⟩ : ∃ d, (A.crash ps).dirs[i]? = some d := ⟨_, List.getElem?_eq_getElem hlt2⟩
     obtain ⟨fb, hfi⟩ := fb_of hq2 hdi;have w := W2.each d (List.mem_of_getElem? hdi);have hnm : (((A.crash ps).dirs.map (·.name)).map Value.string)[i]? = some (.string d.name) := by rw [List.getElem?_map, List.getElem?_map, hdi]; rfl
     refine IdxA_nat (v := .string d.name) (ownS_read (H5.mv 1)) (by rw [List.length_map, List.length_map]) hnm fun ba hba hc => ⟨_, hc, ?_⟩
     show DS (.string d.name) _;rw [DS_string];simp only [NN'_some', addr_add0];refine LdC (b := b) (v := .map (some q.md)) (H5.mv 2) rfl ?_;rw [DM_map];refine findM (H5.mv 3) (lk_at W2 hq2 hdi hfi) ?_;simp only [NN'_some', addr_add0];obtain ⟨nb, bb, oa, oc, H6⟩ := dir_out (H5.mv 5) hdi hfi;refine LdV (v := .map (some nb)) H6.get rfl ?_;rw [DM_map];refine (F52_spec H6).mono ?_;rintro v h6 ⟨cb, rfl, H7⟩;refine ⟨_, rfl, ?_⟩;obtain ⟨m2, hp2, H8⟩ := names_open (H7.mv 2);have hml : m2.length = d.now.length := by rw [hp2.length_eq, List.length_map]
     have hfew2 := w.ok.few;refine (F51_spec (H8.mv 1) (by omega)).mono ?_;rintro v h7 ⟨ka, kc, rfl, H9⟩;rw [DSl_slice];have ek : sortB (m2.map (·.1)) = d.now.map (·.1) := by
      rw [sortB_perm (hp2.map (·.1)), ent_keys, sortB_up (up_names w.ok.up)]
     rw [ek, hml] at H9;rw [hml];have H10 := names_shut hp2 (H9.mv 1);have H11 := dir_in (d := d) hdi hfi (H10.ordT 11 [2, 0, 3, 4, 5, 1, 6, 7, 8, 9, 10]);rw [set_self hdi] at H11;have hdt : ((A.crash ps).dirs.take (i + 1)).flatMap (fun d : AF.Dir => d.now.map (·.2)) = ((A.crash ps).dirs.take i).flatMap (fun d : AF.Dir => d.now.map (·.2)) ++ d.now.map (·.2) := by
      rw [List.take_add_one, hdi, List.flatMap_append];simp
     generalize hxs : ((A.crash ps).dirs.take i).flatMap (fun d : AF.Dir => d.now.map (·.2)) = xs at hpk3 H11 hdt;have ex0 : xs ++ (d.now.take 0).map (·.2) = xs := by simp
     refine ⟨fun st hh => ∃ j, st = ((j : Nat) : Int) ∧ j ≤ d.now.length ∧ ∃ (a : Option Addr) (l c : Nat), Pks F (filesAt A ps (xs ++ (d.now.take j).map (·.2))).2 a l c ∧
      sat (cellS b0 a l c :: ownS 9 1 ka d.now.length kc ((d.now.map (·.1)).map Value.string) :: ownS 9 1 na2 (A.crash ps).dirs.length nc2 (((A.crash ps).dirs.map (·.name)).map Value.string) :: rawC b A q :: ownM strKeys q.md q.m ::
       filesP q.xbs (filesAt A ps (xs ++ (d.now.take j).map (·.2))).1 :: dirsP q.xbs q.fbs (A.crash ps).dirs :: F) hh,
      fun st _ => ((d.now.length : Int) - st).toNat, ⟨0, rfl, Nat.zero_le _, a3, l3, c3, by rw [ex0]; exact hpk3, by rw [ex0]; exact H11.ordT 7 [2, 1, 3, 4, 5, 6, 0]⟩, ?_⟩
     rintro st h8 ⟨j, rfl, hj, a4, l4, c4, hpk4, H12⟩;by_cases hjl : j < d.now.length
     · rw [decide_eq_true (show ((j : Int) < (d.now.length : Int)) by omega), cond_true];obtain ⟨p, hpj⟩ : ∃ p, d.now[j]? = some p := ⟨_, List.getElem?_eq_getElem hjl⟩
       have hpm := List.mem_of_getElem? hpj;have hnm2 : ((d.now.map (·.1)).map Value.string)[j]? = some (.string p.1) := by rw [List.getElem?_map, List.getElem?_map, hpj]; rfl
       refine IdxA_nat (v := .string p.1) (ownS_read (H12.mv 1)) (by rw [List.length_map, List.length_map]) hnm2 fun ba2 hba2 hc2 => ⟨_, hc2, ?_⟩
       show DS (.string p.1) _;rw [DS_string];obtain ⟨nb2, bb2, a5, c5, es, hfb, hes, hsz, hlk⟩ := dir_read (H12.mv 6) hdi hfi w.ok.up;refine ⟨.map (some nb2), by rw [cellAt_of hfb]; rfl, ?_⟩;show DM (.map (some nb2)) _;rw [DM_map];obtain ⟨f, hf, hl⟩ := hlk p.1;refine ⟨es, hes, f, hf, DP_ent hl ?_⟩;rw [AF.mem_of w.ok.up.nodup (f := p.2) hpm];have hx2 : p.2 < (A.crash ps).files.length := (w.ok.each p hpm).1;have hx3 : p.2 < (filesAt A ps (xs ++ (d.now.take j).map (·.2))).1.length := by
        rw [filesAt_length];rw [crash_files, filesAt_length] at hx2;exact hx2
       obtain ⟨_, xb, _, hxb, hgd⟩ := xb_of hq2 hx2;obtain ⟨y, hy⟩ : ∃ y, (filesAt A ps (xs ++ (d.now.take j).map (·.2))).1[p.2]? = some y := ⟨_, List.getElem?_eq_getElem hx3⟩
       obtain ⟨yo1, yo2, _⟩ := filesAt_ok W ps _ y (List.mem_of_getElem? hy);show NN' (some ⟨q.xbs.getD p.2 0, 0, none⟩) _;rw [hgd];simp only [Option.map_some, NN'_some', addr_add0, hgd];obtain ⟨ya, yc, H13⟩ := file_out (H12.mv 5) hy hxb;refine LdV (v := .slice ya y.b.length yc) H13.get rfl ?_;rw [DSl_slice];refine LdC (b := xb) (i := 1) (v := .int .i64 (y.safe : Int)) H13 rfl ?_;rw [DI_int];refine LdV (v := .slice ya y.b.length yc) H13.get rfl ?_;rw [DSl_slice];refine LdC (b := xb) (i := 1) (v := .int .i64 (y.safe : Int)) H13 rfl ?_;rw [DI_int];have w1 : IntKind.wrap .i64 ((y.b.length : Int) - (y.safe : Int)) = ((y.b.length - y.safe : Nat) : Int) := by
        rw [IntWalk.i64_in _ (by omega)];omega
       rw [w1];refine (F54_spec (n := y.b.length - y.safe) (by omega) hpk4 (H13.rest 9) (H13.mv 3)).mono ?_;rintro v h9 ⟨rfl, a6, l6, c6, hpk6, H14⟩;rw [DI_int];refine ⟨rfl, rfl, rfl, rfl, LdV (v := .slice ya y.b.length yc) (H14.mv 1).get rfl (by rw [DSl_slice]; rfl), rfl, rfl, rfl, LdC (b := xb) (i := 1) (v := .int .i64 (y.safe : Int)) (H14.mv 1) rfl (by rw [DI_int]; rfl), ?_⟩;have hple := AF.pick_le (filesAt A ps (xs ++ (d.now.take j).map (·.2))).2 (y.b.length - y.safe);obtain hnext := filesAt_next hy;generalize hk : (AF.pick (filesAt A ps (xs ++ (d.now.take j).map (·.2))).2 (y.b.length - y.safe)).1 = k at hple hnext;rw [← Int.natCast_add, wrap64_nat (by omega)];have hyl := ownS_len (H14.mv 2);rw [List.length_map] at hyl;refine SlV_nat (lo := 0) (hi := y.safe + k) (mx := yc) (Nat.zero_le _) (by omega) (Nat.le_refl _) ?_;rw [subA_zero, Nat.sub_zero, Nat.sub_zero];have H15 := ownS_cut (k := y.safe + k) (by omega) (H14.mv 2);rw [← List.map_take] at H15;refine StCC (b := xb) (i := 0) (c' := #[.slice ya (y.safe + k) yc, .int .i64 (y.safe : Int)]) (H15.mv 2) (by show 0 < 2; decide) rfl fun h10 H16 => ?_;refine LdC (b := xb) (i := 0) (v := .slice ya (y.safe + k) yc) H16 rfl ?_;rw [DSl_slice];refine StCC (b := xb) (i := 1) (c' := #[.slice ya (y.safe + k) yc, .int .i64 ((y.safe + k : Nat) : Int)]) H16 (by show 1 < 2; decide) rfl fun h11 H17 => ?_;have etl : (y.b.take (y.safe + k)).length = y.safe + k := by rw [List.length_take]; omega
       have H18 : sat (pt xb (fileC ya (y.b.take (y.safe + k)).length yc (y.safe + k)) :: ownS 5 1 ya (y.b.take (y.safe + k)).length yc ((y.b.take (y.safe + k)).map nv) :: fileR q.xbs (filesAt A ps (xs ++ (d.now.take j).map (·.2))).1 p.2 :: cellS b0 a6 l6 c6 ::
        ownS 9 1 ka d.now.length kc ((d.now.map (·.1)).map Value.string) :: ownS 9 1 na2 (A.crash ps).dirs.length nc2 (((A.crash ps).dirs.map (·.name)).map Value.string) :: rawC b A q :: ownM strKeys q.md q.m :: dirsP q.xbs q.fbs (A.crash ps).dirs :: F) h11 := by
        rw [etl];exact H17.ordT 9 [0, 1, 3, 2, 4, 5, 6, 7, 8]
       have H19 := file_in (y := ⟨y.b.take (y.safe + k), y.safe + k⟩) hy hxb H18;have ejs : (d.now.take (j + 1)).map (·.2) = (d.now.take j).map (·.2) ++ [p.2] := by
        rw [List.take_add_one, hpj];simp
       have en : filesAt A ps (xs ++ (d.now.take (j + 1)).map (·.2)) = ((filesAt A ps (xs ++ (d.now.take j).map (·.2))).1.set p.2 ⟨y.b.take (y.safe + k), y.safe + k⟩, (AF.pick (filesAt A ps (xs ++ (d.now.take j).map (·.2))).2 (y.b.length - y.safe)).2) := by
        rw [ejs, ← List.append_assoc];exact hnext
       refine ⟨⟨j + 1, wrap64_succ (by omega), by omega, a6, l6, c6, by rw [en]; exact hpk6, ?_⟩, ?_⟩
       · rw [en];exact H19.ordT 7 [1, 2, 3, 4, 5, 0, 6]
       · rw [wrap64_succ (by omega)];show ((d.now.length : Int) - ((j + 1 : Nat) : Int)).toNat < ((d.now.length : Int) - (j : Int)).toNat;omega
     · have ejl : j = d.now.length := by omega
       subst ejl;rw [decide_eq_false (by omega), cond_false];rw [List.take_length] at H12 hpk4;rw [← hdt] at H12 hpk4;refine ⟨⟨i + 1, wrap64_succ (by omega), by omega, a4, l4, c4, hpk4, H12.ordT 7 [0, 2, 3, 4, 5, 6]⟩, ?_⟩;rw [wrap64_succ (by omega)];show (((A.crash ps).dirs.length : Int) - ((i + 1 : Nat) : Int)).toNat < (((A.crash ps).dirs.length : Int) - (i : Int)).toNat;omega
   · have ei2 : i = (A.crash ps).dirs.length := by omega
     subst ei2;rw [decide_eq_false (by omega), cond_false];rw [List.take_length] at H5;have efs : (filesAt A ps ((A.crash ps).dirs.flatMap fun d => d.now.map (·.2))).1 = (A.crash ps).files := (crash_files ps).symm;rw [efs] at H5;simp only [NN'_some', addr_add0];refine StCC (b := b) (i := 4) (c' := #[.int .i64 (A.room : Int), .int .i64 (A.used : Int), .int .i64 (A.steps : Int), .int .i64 (fuseI A.fuse), .bool false, .map (some q.md)]) (H5.mv 2) (by show 4 < 6; decide) rfl fun h6 H6 => ?_;refine StCC (b := b) (i := 3) (c' := #[.int .i64 (A.room : Int), .int .i64 (A.used : Int), .int .i64 (A.steps : Int), .int .i64 (-1), .bool false, .map (some q.md)]) H6 (by show 3 < 6; decide) rfl fun h7 H7 => ?_;refine (F57_spec (A := A.crash ps) (room := (A.room : Int)) (used0 := (A.used : Int)) (steps := (A.steps : Int)) (fuse := -1) (off := false) W2 hq2 (H7.ordT 6 [0, 3, 4, 5])).mono ?_;rintro v h8 ⟨rfl, H8⟩;exact ⟨by trivial, by trivial, fsP_shut q hq2 H8⟩
end
end Go.Proofs.YtibdiikcigokjaaGreatDoor
