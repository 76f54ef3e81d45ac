/- Spoilt and planted files, as plain data. The program's file system: Room, Spoil, Plant. The document's file system in memory: of the same plain data. The document's file system: names, places, entries more and fewer. The document's file system: entries fewer and more, an operation among entries, a pick. The document's file system: a pending operation, done at once. The document's file system: the walk of a pending operation. The document's file system: what is used, read, listed; the plain calls. The document's file system: Read, List, Append, Sync, SyncDir, Create, Rename, Remove. The document's file system: SyncDir, Create, Rename, Remove. The document's file system: Mkdir. The document's file system: Spoil, Plant. The document's file system: Plant. The document's file system: Crash. The document's file system: Crash, the walk. Any call of both file systems. FsPlays: what both show; the law. -/
import Derived.Test.YticjjdhaikbdaaaGreatPpSgA
import Derived.Test.YticjjdhaikbdaaaGreatPpTg
import Derived.Test.YticjjdhaikbdaaaGreatPpSg8

namespace Go.Proofs.YticjjdhaikbdaaaGreat
namespace AF
set_option linter.unusedVariables false
set_option linter.unusedSimpArgs false
def FS.spoil (f : FS) (dir name : ByteArray) (at_ : Int) (turn : Nat) : FS × Nat := match f.named dir [name] with
  | .error e => (f, e)
  | .ok i => match of (f.D i).now name with
    | none => (f, 62)
    | some x => if at_ < 0 ∨ ((f.X x).b.length : Int) ≤ at_ then (f, 2) else (f.setFile x fun y => { y with b := y.b.modify at_.toNat (· ^^^ turn) }, 0)
/-- A file of somebody else's. -/
def FS.planted (f : FS) (i : Nat) (name : ByteArray) (b : List Nat) : FS :=
  FS.setDir { f with files := f.files ++ [⟨b, b.length⟩] } i fun d => { d with now := ins name f.files.length d.now, base := ins name f.files.length d.now, pend := [] }
def FS.plant (f : FS) (dir name : ByteArray) (b : List Nat) : FS × Nat := match f.named dir [name] with
  | .error e => (f, e)
  | .ok i => if 16777216 < b.length then (f, 67) else if (of (f.D i).now name).isNone ∧ 4096 ≤ (f.D i).now.length then (f, 66) else (f.planted i name b, 0)
theorem named_ok {f : FS} {dir : ByteArray} {ss : List ByteArray} {i : Nat} (h : f.named dir ss = .ok i) : right dir = true ∧ (∀ s ∈ ss, right s = true) ∧ ∃ d, f.dirs[i]? = some d ∧ d.name = dir := by
  unfold FS.named at h
  split at h
  · rename_i hr
    rw [Bool.and_eq_true, List.all_eq_true] at hr
    split at h
    · rename_i j hj
      cases h
      exact ⟨hr.1, hr.2, at_some hj⟩
    · cases h
  · cases h
theorem named_err {f : FS} {dir : ByteArray} {ss : List ByteArray} {e : Nat} (h : f.named dir ss = .error e) : e ≠ 0 := by
  unfold FS.named at h
  split at h
  · split at h
    · cases h
    · cases h; decide
  · cases h; decide
theorem FS.WF.spoil {f : FS} (h : f.WF) (dir name : ByteArray) (at_ : Int) {turn : Nat} (ht : turn < 256) : (f.spoil dir name at_ turn).1.WF := by
  unfold FS.spoil
  split
  · exact h
  · split
    · exact h
    · split
      · exact h
      · refine h.setFile fun y hy => ?_
        obtain ⟨h1, h2, h3⟩ := h.files y (List.mem_of_getElem? hy)
        refine ⟨by rw [List.length_modify]; exact h1, by rw [List.length_modify]; exact h2, fun n hn => ?_⟩
        rcases mem_modify hn with hn | ⟨d, hd, rfl⟩
        · exact h3 n hn
        · exact Nat.xor_lt_two_pow (n := 8) (h3 d (List.mem_of_getElem? hd)) ht
theorem Ok.ins2 {n : Nat} {l : Names} (h : Ok n l) {a : ByteArray} {f : Nat} (ha : right a = true) (hf : f < n) (hn : f ∉ l.map (·.2)) (hl : (of l a).isSome = true ∨ l.length < 4096) : Ok n (AF.ins a f l) := by
  have hp := ins_perm (n := a) (f := f) h.up
  refine ⟨ins_up h.up, fun p hm => ?_, ?_, ?_⟩
  · rcases List.mem_cons.1 (hp.mem_iff.1 hm) with rfl | hm
    · exact ⟨hf, ha⟩
    · exact h.each p (mem_filt hm)
  · rw [(hp.map (·.2)).nodup_iff]
    simp only [List.map_cons, List.nodup_cons]
    refine ⟨fun hm => hn ?_, (h.drop a).once⟩
    obtain ⟨p, hp, e⟩ := List.mem_map.1 hm
    exact List.mem_map.2 ⟨p, mem_filt hp, e⟩
  · rw [hp.length_eq, List.length_cons]
    have h1 := List.length_filter_le (fun p : ByteArray × Nat => !decide (p.1 = a)) l
    have h2 := h.few
    rcases hl with hl | hl
    · have := drop_lt hl
      omega
    · unfold AF.drop
      omega
theorem planted_wf {f : FS} (h : f.WF) {i : Nat} {d : Dir} {name : ByteArray} {b : List Nat} (hd : f.dirs[i]? = some d) (hr : right name = true) (h8 : B8 b) (hl : b.length ≤ 16777216) (hf : (of d.now name).isSome = true ∨ d.now.length < 4096) : (f.planted i name b).WF := by
  have w := h.each d (List.mem_of_getElem? hd)
  have hlen : (f.files ++ [(⟨b, b.length⟩ : File)]).length = f.files.length + 1 := by simp
  have hnew : f.files.length ∉ d.now.map (·.2) := fun hm => by
    have := speaks_of w (now_speaks w hm)
    omega
  have hok : Ok (f.files.length + 1) (ins name f.files.length d.now) := (w.ok.grow (Nat.le_succ _)).ins2 hr (Nat.lt_succ_self _) hnew hf
  have sp : ∀ x, x ∈ (ins name f.files.length d.now).map (·.2) → x ∈ d.speaks ∨ x = f.files.length := by
    intro x hx
    have hx2 := does_files (o := .create name f.files.length) hx w.ok.up
    rcases hx2 with hx2 | hx2
    · exact .inl (now_speaks w hx2)
    · exact .inr (by simpa [opFiles] using hx2)
  have lt : ∀ e ∈ f.dirs, ∀ x ∈ e.speaks, x < f.files.length := fun e he x hx => speaks_of (h.each e he) hx
  refine ⟨h.room, pairwise_modify _ _ h.up fun d' hd' e he => ⟨fun k => k, fun k => k⟩, fun e he => ?_, pairwise_modify _ _ h.apart fun d' hd' e he => ⟨fun k x hx hx2 => ?_, fun k x hx hx2 => ?_⟩, fun x hx => ?_, by show (List.modify _ _ _).length ≤ 64; rw [List.length_modify]; exact h.few, h.fuse⟩
  · show e.WF (f.files ++ [(⟨b, b.length⟩ : File)]).length f.steps
    rw [hlen]
    rcases mem_modify he with he | ⟨d', hd', rfl⟩
    · exact (h.each e he).grow (Nat.le_succ _) (Nat.le_refl _)
    · have hd2 : f.dirs[i]? = some d' := hd'
      rw [hd] at hd2
      cases hd2
      exact ⟨w.name, rfl, hok, Nat.zero_le _⟩
  · have hd2 : f.dirs[i]? = some d' := hd'
    rw [hd] at hd2
    cases hd2
    rcases sp x (by simpa [Dir.speaks] using hx2) with h1 | h1
    · exact k x hx h1
    · have := lt e he x hx
      omega
  · have hd2 : f.dirs[i]? = some d' := hd'
    rw [hd] at hd2
    cases hd2
    rcases sp x (by simpa [Dir.speaks] using hx) with h1 | h1
    · exact k x h1 hx2
    · have := lt e he x hx2
      omega
  · rcases List.mem_append.1 hx with hx | hx
    · exact h.files x hx
    · rw [List.mem_singleton] at hx
      subst hx
      exact ⟨Nat.le_refl _, hl, h8⟩
theorem FS.WF.plant {f : FS} (h : f.WF) (dir name : ByteArray) {b : List Nat} (h8 : B8 b) : (f.plant dir name b).1.WF := by
  unfold FS.plant
  cases hn : f.named dir [name] with
  | error e => exact h
  | ok i =>
    obtain ⟨_, hr, d, hd, _⟩ := named_ok hn
    dsimp only
    rw [D_of hd]
    split
    · exact h
    · split
      · exact h
      · rename_i h1 h2
        refine planted_wf h hd (hr name (by simp)) h8 (by omega) ?_
        cases ho : of d.now name with
        | some x => exact .inl rfl
        | none =>
          right
          rw [ho] at h2
          simp at h2
          omega
end AF

end Go.Proofs.YticjjdhaikbdaaaGreat

namespace Go.Proofs.YticjjdhaikbdaaaGreat
open Go Go.RowKit Go.MapKept
set_option linter.unusedVariables false
set_option linter.unusedSimpArgs false

theorem used_lens {A : AF.FS} {x : Nat} {g : AF.File → AF.File} (hg : ∀ y, (g y).b.length = y.b.length) : (A.setFile x g).used = A.used := by
  unfold AF.FS.used
  congr 1
  apply List.map_congr_left
  intro y hy
  rw [AF.X_setFile]
  split
  · rw [hg]
  · rfl
theorem rest_same {n s : Nat} {xs ys fbs : List Nat} (hs : sameB n xs ys) {ds : List AF.Dir} {i : Nat} (w : ∀ d ∈ ds, d.WF n s) : dirR xs fbs ds i = dirR ys fbs ds i := by
  unfold dirR butP
  rw [zip_congr fun d hd fb => dir_same hs (w d hd) fb]
section
variable {b : Nat} {A : AF.FS} {q : FsQ} {F : List HProp} {h : Heap} {dir name : ByteArray}
theorem F76_spec {n : Int} (H : sat (fsP b A :: F) h) : CallsH Tryz.prog 76 [ptrV b, .int .i64 n] h fun v h' => v = .int .i64 ((A.setRoom n).2 : Int) ∧ sat (fsP b (A.setRoom n).1 :: F) h' := by
  obtain ⟨q, hq, H1⟩ := fsP_open H
  apply F76b_ok
  unfold F76b AF.FS.setRoom
  rw [show (some (⟨b, 0, none⟩ : Addr)).isNone = false from rfl, cond_false]
  by_cases h1 : n < 0
  · rw [decide_eq_true h1, cond_true, if_pos (.inl h1)]
    exact ⟨rfl, H⟩
  · rw [decide_eq_false h1, cond_false]
    by_cases h2 : 1073741824 < n
    · rw [decide_eq_true (show n > 1073741824 from h2), cond_true, if_pos (.inr h2)]
      exact ⟨rfl, H⟩
    · rw [decide_eq_false (show ¬ n > 1073741824 from h2), cond_false, if_neg (by omega)]
      rw [NN'_some', addr_add0]
      refine StCC (c' := #[.int .i64 ((n.toNat : Nat) : Int), .int .i64 (A.used : Int), .int .i64 (A.steps : Int), .int .i64 (fuseI A.fuse), .bool A.off, .map (some q.md)]) H1 (by show 0 < 6; decide) (by rw [Int.toNat_of_nonneg (by omega)]; rfl) fun h2 H2 => ?_
      exact ⟨rfl, fsP_shut (A := { A with room := n.toNat }) q hq H2⟩
/-- A directory and a file's entry, found. -/
theorem F77_spec {at_ : Int} {turn : Nat} (W : A.WF) (ht : turn < 256) (hd : dir.size < 4611686018427387904) (hn : name.size < 4611686018427387904) (hat : at_ ≤ 9223372036854775807) (H : sat (fsP b A :: F) h) :
    CallsH Tryz.prog 77 [ptrV b, .string dir, .string name, .int .i64 at_, .int .u8 (turn : Int)] h fun v h' => v = .int .i64 ((A.spoil dir name at_ turn).2 : Int) ∧ sat (fsP b (A.spoil dir name at_ turn).1 :: F) h' := by
  obtain ⟨q, hq, H0⟩ := fsP_open H
  apply F77b_ok
  unfold F77b
  rw [show (some (⟨b, 0, none⟩ : Addr)).isNone = false from rfl, cond_false]
  refine Al_sat H0 fun b0 h1 H1 => ?_
  refine (F136_spec (ss := [name]) H1.drop (dirs_ptr hq) (RdC1 H1) rfl (show 1 < 1000 by omega) hd (fun s hs => by simp at hs; rw [hs]; exact hn)).mono ?_
  rintro v h2 ⟨rfl, rfl⟩
  have H2 := H1.drop
  rcases found_eq W hq dir [name] with ⟨i, d, fb, he, hdi, hfi, hfv⟩ | ⟨e, he, hne, hfv⟩
  · rw [hfv]
    refine ⟨some ⟨fb, 0, none⟩, 0, rfl, ?_⟩
    rw [show ((0 : Int) != 0) = false from rfl, cond_false]
    have w := W.each d (List.mem_of_getElem? hdi)
    obtain ⟨nb, bb, a, c, es, hfb, hes, hsz, hlk⟩ := dir_read (H2.mv 3) hdi hfi w.ok.up
    obtain ⟨f, hf, hl⟩ := hlk name
    have eA : A.spoil dir name at_ turn = match AF.of d.now name with
        | none => (A, 62)
        | some x => if at_ < 0 ∨ ((A.X x).b.length : Int) ≤ at_ then (A, 2) else (A.setFile x fun y => { y with b := y.b.modify at_.toNat (· ^^^ turn) }, 0) := by
      unfold AF.FS.spoil
      rw [he]
      dsimp only
      rw [AF.D_of hdi] <;> rfl
    rw [eA]
    simp only [NN'_some', addr_add0]
    have rd : ∀ K : Value → Prop, K (.map (some nb)) → Ld h2 ⟨fb, 0, none⟩ K := fun K hK => ⟨_, by rw [cellAt_of hfb]; rfl, hK⟩
    refine rd _ ?_
    rw [DM_map]
    refine ⟨es, hes, f, hf, DP_ent hl ?_⟩
    cases ho : AF.of d.now name with
    | none =>
      show bif (true : Bool) then _ else _
      rw [cond_true]
      exact ⟨rfl, fsP_shut q hq H2⟩
    | some x =>
      show bif (false : Bool) then _ else _
      rw [cond_false]
      by_cases h1 : at_ < 0
      · rw [decide_eq_true h1, cond_true]
        simp only [h1, true_or, if_true]
        exact ⟨rfl, fsP_shut q hq H2⟩
      rw [decide_eq_false h1, cond_false]
      have hxf := (w.ok.each _ (AF.of_mem ho)).1
      obtain ⟨y, xb, hy, hxb, hxd⟩ := xb_of hq hxf
      have hX := AF.X_of hy
      have hlo : f.map (·.2) = (AF.of d.now name).map fun x => ptrV (q.xbs.getD x 0) := hl
      refine rd _ ?_
      rw [DM_map]
      refine ⟨es, hes, f, hf, DP_ent hlo ?_⟩
      rw [ho]
      show NN' (some ⟨q.xbs.getD x 0, 0, none⟩) _
      rw [NN'_some', hxd]
      obtain ⟨ya, yc, H3⟩ := file_out (H2.mv 2) hy hxb
      refine LdV (v := .slice ya y.b.length yc) H3.get rfl ?_
      rw [DSl_slice]
      by_cases h2' : ((y.b.length : Nat) : Int) ≤ at_
      · rw [decide_eq_true (show at_ ≥ (y.b.length : Int) from h2'), cond_true]
        dsimp only
        rw [hX, if_pos (.inr h2')]
        exact ⟨rfl, fsP_shut q hq H2⟩
      rw [decide_eq_false (show ¬ at_ ≥ (y.b.length : Int) from h2'), cond_false]
      dsimp only
      rw [hX, if_neg (by rintro (h | h); exact h1 h; exact h2' h)]
      obtain ⟨k, rfl⟩ : ∃ k : Nat, at_ = (k : Int) := ⟨at_.toNat, by omega⟩
      rw [Int.toNat_natCast]
      refine rd _ ?_
      rw [DM_map]
      refine ⟨es, hes, f, hf, DP_ent hlo ?_⟩
      rw [ho]
      show NN' (some ⟨q.xbs.getD x 0, 0, none⟩) _
      rw [NN'_some', hxd]
      refine LdV (v := .slice ya y.b.length yc) H3.get rfl ?_
      rw [DSl_slice]
      have H4 : sat (ownS 5 1 ya y.b.length yc (y.b.map nv) :: pt _ _ :: _) _ := H3.mv 1
      obtain ⟨n, hn⟩ : ∃ n, y.b[k]? = some n := ⟨_, List.getElem?_eq_getElem (by omega)⟩
      have hn8 := (W.files y (List.mem_of_getElem? hy)).2.2 n (List.mem_of_getElem? hn)
      have hget : (y.b.map nv)[k]? = some (nv n) := by rw [List.getElem?_map, hn]; rfl
      refine IdxA_nat (ownS_read H4) (List.length_map ..) hget fun ba hba hc => ⟨_, hc, _, rfl, ?_⟩
      refine IdxA_nat (ownS_read H4) (List.length_map ..) hget fun ba2 hba2 hc2 => ?_
      rw [xor8 hn8 ht]
      rw [hba2] at H4
      refine ownS_set H4 (by rw [List.length_map]; omega) fun h5 H5 => ?_
      have eset : (y.b.map nv).set k (.int .u8 ((n ^^^ turn : Nat) : Int)) = (y.b.modify k (· ^^^ turn)).map nv := by
        rw [modify_set (· ^^^ turn) hn, List.map_set]
        rfl
      rw [eset, ← hba2] at H5
      have el : (y.b.modify k (· ^^^ turn)).length = y.b.length := List.length_modify ..
      have H6 : sat (pt xb (fileC ya (y.b.modify k (· ^^^ turn)).length yc y.safe) :: ownS 5 1 ya (y.b.modify k (· ^^^ turn)).length yc ((y.b.modify k (· ^^^ turn)).map nv) :: fileR q.xbs A.files x :: rawOf b A q.md :: ownM strKeys q.md q.m :: dirsP q.xbs q.fbs A.dirs :: F) h5 := by
        rw [el]
        exact H5.mv 1
      have H7 := file_in (y := ⟨y.b.modify k (· ^^^ turn), y.safe⟩) hy hxb H6
      refine ⟨rfl, fsP_shut q (fsQ_file hq x _) ?_⟩
      have e3 : A.files.set x ⟨y.b.modify k (· ^^^ turn), y.safe⟩ = (A.setFile x fun y => { y with b := y.b.modify k (· ^^^ turn) }).files := (modify_set (l := A.files) (fun y : AF.File => { y with b := y.b.modify k (· ^^^ turn) }) hy).symm
      rw [e3] at H7
      unfold rawOf at H7 ⊢
      rw [used_lens fun y => List.length_modify ..]
      exact H7.ordT 4 [1, 2, 0, 3]
  · rw [hfv]
    refine ⟨none, (e : Int), rfl, ?_⟩
    have e0 : e ≠ 0 := by omega
    rw [err_bne e0, cond_true]
    unfold AF.FS.spoil
    rw [he]
    exact ⟨rfl, fsP_shut q hq H2⟩
/-- The file is planted: what is done once it may be. -/
theorem plant_tail {i fb nb bb c : Nat} {d : AF.Dir} {a ba : Option Addr} {bl bc : Nat} {bs : List Nat} {Q : Value → Heap → Prop} {hh : Heap} (W : A.WF) (W2 : (A.planted i name bs).WF) (hq : fsQ A q) (hdi : A.dirs[i]? = some d) (hfi : q.fbs[i]? = some fb) (hl : bs.length = bl) (hbl : bl ≤ 16777216)
    (H : sat (pt fb (dirC nb bb a d.pend.length c) :: namesP q.xbs nb d.now :: dirR q.xbs q.fbs A.dirs i :: rawOf b A q.md :: ownM strKeys q.md q.m :: filesP q.xbs A.files :: ownS 5 1 ba bl bc (bs.map nv) :: F) hh)
    (hQ : ∀ h', sat (fsP b (A.planted i name bs) :: F) h' → Q (.int .i64 0) h') :
    NN' (some ⟨fb, 0, none⟩) fun a8 =>
    Ld hh (a8.add 0) fun v6 => DM v6 fun x11 =>
    CallsH Tryz.prog 132 [.slice ba bl bc] hh fun r9 h_11 =>
    DSl r9 fun x12a x12l x12c =>
    (SameV (some (.pointer (some ⟨fb, 0, none⟩))) (.pointer (some ⟨fb, 0, none⟩))) ∧
    (NN' (some ⟨fb, 0, none⟩) fun a9 =>
    SameV (some (.pointer (some a8))) (.pointer (some a9))) ∧
    (SameV (some (.pointer (some (a8.add 0)))) (.pointer (some (a8.add 0)))) ∧
    (Ld h_11 (a8.add 0) fun v7 => DM v7 fun x13 =>
    SameV (some (.map x11)) (.map x13)) ∧
    (SameV (some (.string name)) (.string name)) ∧
    (SameV (some (.slice ba bl bc)) (.slice ba bl bc)) ∧
    (SameV (some (.int .i64 (bl : Int))) (.int .i64 (bl : Int))) ∧
    Al h_11 (.cells #[.slice x12a x12l x12c, .int .i64 (bl : Int)] 164) fun b3 h_12 =>
    (SameV (some (.pointer (some ⟨fb, 0, none⟩))) (.pointer (some ⟨fb, 0, none⟩))) ∧
    (NN' (some ⟨fb, 0, none⟩) fun a10 =>
    SameV (some (.pointer (some a8))) (.pointer (some a10))) ∧
    (SameV (some (.pointer (some (a8.add 0)))) (.pointer (some (a8.add 0)))) ∧
    (Ld h_12 (a8.add 0) fun v8 => DM v8 fun x14 =>
    SameV (some (.map x11)) (.map x14)) ∧
    (SameV (some (.string name)) (.string name)) ∧
    RunU Tryz.prog (Instr.mapUpdate 155 (.map x11) (.string name) (.pointer (some (Addr.mk b3 0 none)))) h_12 fun h_13 =>
    NN' (some ⟨fb, 0, none⟩) fun a11 =>
    Ld h_13 (a11.add 0) fun v9 => DM v9 fun x15 =>
    CallsH Tryz.prog 102 [.map x15] h_13 fun r12 h_14 =>
    DM r12 fun x16 =>
    NN' (some ⟨fb, 0, none⟩) fun a12 =>
    StC h_14 ((a12.add 1).add 0) (.map x16) fun h_16 =>
    NN' (some ⟨fb, 0, none⟩) fun a13 =>
    StC h_16 ((a13.add 2).add 0) (.slice none 0 0) fun h_18 =>
    CallsH Tryz.prog 105 [.pointer (some ⟨b, 0, none⟩)] h_18 fun r15 h_19 =>
    r15 = .tuple #[] ∧
    Q (.int .i64 0) h_19 := by
  simp only [NN'_some', addr_add0]
  have w := W.each d (List.mem_of_getElem? hdi)
  refine LdV (v := .map (some nb)) H.get rfl ⟨_, rfl, ?_⟩
  refine (F132_spec (by omega) (H.mv 6)).mono ?_
  rintro v h1 ⟨a2, c2, rfl, H1⟩
  rw [DSl_slice]
  -- new, old, pt fb, names, dirR, raw, ownM, files, F
  refine ⟨rfl, rfl, rfl, LdV (v := .map (some nb)) (H1.mv 2).get rfl ⟨_, rfl, rfl⟩, rfl, rfl, rfl, ?_⟩
  refine Al_sat H1 fun b3 h2 H2 => ?_
  -- b3, new, old, pt fb, names, dirR, raw, ownM, files, F
  refine ⟨rfl, rfl, rfl, LdV (v := .map (some nb)) (H2.mv 3).get rfl ⟨_, rfl, rfl⟩, rfl, ?_⟩
  have hs := sameB_snoc q.xbs b3
  have hxl : q.xbs.length = A.files.length := hq.2.2
  rw [hxl] at hs
  have hx : (q.xbs ++ [b3]).getD A.files.length 0 = b3 := by
    rw [← hxl, List.getD_eq_getElem?_getD, List.getElem?_append_right (Nat.le_refl _)]
    simp
  have H3 : sat (fileP ⟨bs, bs.length⟩ b3 :: pt fb (dirC nb bb a d.pend.length c) :: namesP (q.xbs ++ [b3]) nb d.now :: dirR (q.xbs ++ [b3]) q.fbs A.dirs i :: rawOf b A q.md :: ownM strKeys q.md q.m :: filesP q.xbs A.files :: F) h2 := by
    have K := H2.ordT 9 [0, 1, 3, 4, 5, 6, 7, 8]
    rw [names_same hs fun p hp => (w.ok.each p hp).1, rest_same hs W.each] at K
    refine sat_exi.2 ⟨(a2, c2), sat.shut (m := [pt b3 (.cells #[.slice a2 bs.length c2, .int .i64 ((bs.length : Nat) : Int)] 164 (0, 0)), ownS 5 1 a2 bs.length c2 (bs.map nv)]) ?_⟩
    rw [hl]
    exact K
  have H4 := many_new hxl.symm (H3.ordT 7 [6, 0, 1, 2, 3, 4, 5])
  -- files', pt fb, names, dirR, raw, ownM, F
  obtain ⟨m2, hp2, H5⟩ := names_open (H4.mv 2)
  refine mapUpdate_sat (E := strKeys) (k := name) u88 u9 H5 fun h3 H6 => ?_
  have hp3 := ent_upd hp2 w.ok.up name A.files.length
  rw [hx] at hp3
  -- ownM nb, files', pt fb, dirR, raw, ownM, F
  refine LdV (v := .map (some nb)) (H6.mv 2).get rfl ⟨_, rfl, ?_⟩
  refine (F102_spec H6).mono ?_
  rintro v h4 ⟨cb, rfl, H7⟩
  rw [DM_map]
  -- ownM cb, ownM nb, files', pt fb, dirR, raw, ownM, F
  refine StCC (b := fb) (i := 1) (c' := #[.map (some nb), .map (some cb), .slice a d.pend.length c]) (H7.mv 3) (by show 1 < 3; decide) rfl fun h5 H8 => ?_
  refine StCC (b := fb) (i := 2) (c' := #[.map (some nb), .map (some cb), .slice none 0 0]) H8 (by show 2 < 3; decide) rfl fun h6 H9 => ?_
  -- pt fb, ownM cb, ownM nb, files', dirR, raw, ownM, F
  have K1 := names_shut hp3 (H9.mv 1)
  have K2 := names_shut hp3 (K1.mv 2)
  have K3 := ownL_nil (opP (q.xbs ++ [b3])) 158 K2
  -- ownL, names nb, names cb, pt fb, files', dirR, raw, ownM
  have K4 := dir_in (d := ⟨d.name, AF.ins name A.files.length d.now, AF.ins name A.files.length d.now, []⟩) (a := none) (c := 0) hdi hfi (K3.ordT 8 [3, 1, 2, 0, 5, 4, 6, 7])
  have e3 : A.dirs.set i ⟨d.name, AF.ins name A.files.length d.now, AF.ins name A.files.length d.now, []⟩ = (A.planted i name bs).dirs := (modify_set (l := A.dirs) (fun d : AF.Dir => { d with now := AF.ins name A.files.length d.now, base := AF.ins name A.files.length d.now, pend := [] }) hdi).symm
  rw [e3] at K4
  have hq1 : fsQ (A.planted i name bs) ⟨q.md, q.fbs, q.xbs ++ [b3], q.m⟩ := by
    have hq0 : fsQ { A with files := A.files ++ [⟨bs, bs.length⟩] } ⟨q.md, q.fbs, q.xbs ++ [b3], q.m⟩ := ⟨hq.1, hq.2.1, by simp [hq.2.2]⟩
    exact fsQ_of hq0 (names_modify fun d => rfl) rfl
  -- dirs, files', raw, ownM, F
  refine (F105_spec (A := A.planted i name bs) (q := ⟨q.md, q.fbs, q.xbs ++ [b3], q.m⟩) (used0 := (A.used : Int)) (room := (A.room : Int)) (steps := (A.steps : Int)) (fuse := fuseI A.fuse) (off := A.off) W2 hq1 (K4.ordT 4 [2, 3, 1, 0])).mono ?_
  rintro v h7 ⟨rfl, K5⟩
  exact ⟨rfl, hQ h7 (fsP_shut ⟨q.md, q.fbs, q.xbs ++ [b3], q.m⟩ hq1 K5)⟩
theorem F78_spec {ba : Option Addr} {bl bc : Nat} {bs : List Nat} (W : A.WF) (hd : dir.size < 4611686018427387904) (hn : name.size < 4611686018427387904) (h8 : B8 bs) (hl : bs.length = bl) (H : sat (fsP b A :: ownS 5 1 ba bl bc (bs.map nv) :: F) h) :
    CallsH Tryz.prog 78 [ptrV b, .string dir, .string name, .slice ba bl bc] h fun v h' => v = .int .i64 ((A.plant dir name bs).2 : Int) ∧ sat (fsP b (A.plant dir name bs).1 :: F) h' := by
  obtain ⟨q, hq, H0⟩ := fsP_open H
  apply F78b_ok
  unfold F78b
  rw [show (some (⟨b, 0, none⟩ : Addr)).isNone = false from rfl, cond_false]
  refine Al_sat H0 fun b1 h1 H1 => ?_
  refine (F136_spec (ss := [name]) H1.drop (dirs_ptr hq) (RdC1 H1) rfl (show 1 < 1000 by omega) hd (fun s hs => by simp at hs; rw [hs]; exact hn)).mono ?_
  rintro v h2 ⟨rfl, rfl⟩
  have H2 := H1.drop
  have same : sat (fsP b A :: F) h2 := fsP_shut q hq (H2.ordT 5 [0, 1, 2, 3])
  rcases found_eq W hq dir [name] with ⟨i, d, fb, he, hdi, hfi, hfv⟩ | ⟨e, he, hne, hfv⟩
  · rw [hfv]
    refine ⟨some ⟨fb, 0, none⟩, 0, rfl, ?_⟩
    rw [show ((0 : Int) != 0) = false from rfl, cond_false]
    obtain ⟨_, hrn, _⟩ := AF.named_ok he
    have w := W.each d (List.mem_of_getElem? hdi)
    have eA : A.plant dir name bs = if 16777216 < bl then (A, 67) else if (AF.of d.now name).isNone ∧ 4096 ≤ d.now.length then (A, 66) else (A.planted i name bs, 0) := by
      unfold AF.FS.plant
      rw [he]
      dsimp only
      rw [AF.D_of hdi, hl]
    rw [eA]
    by_cases c1 : 16777216 < bl
    · rw [decide_eq_true (show ((bl : Int) > 16777216) by omega), cond_true, if_pos c1]
      exact ⟨rfl, same⟩
    rw [decide_eq_false (show ¬ ((bl : Int) > 16777216) by omega), cond_false, if_neg c1]
    obtain ⟨nb, bb, a, c, H3⟩ := dir_out (H2.mv 3) hdi hfi
    -- pt fb, names nb, names bb, ownL, dirR, raw, ownM, files, own, F
    obtain ⟨m2, hp2, H4⟩ := names_open (H3.mv 1)
    obtain ⟨es, clock, hm, hes⟩ := mapEs_ownM H4
    obtain ⟨f, hf, hlk, _⟩ := hm.find name
    have hl2 : f.map (·.2) = (AF.of d.now name).map fun x => ptrV (q.xbs.getD x 0) := by rw [hlk, ent_lk hp2 w.ok.up]
    have hsz : es.size = d.now.length := by rw [hm.size, hp2.length_eq, List.length_map]
    have HT := H3.ordT 9 [0, 1, 4, 5, 6, 7, 8]
    have W2 : ((AF.of d.now name).isSome = true ∨ d.now.length < 4096) → (A.planted i name bs).WF := fun hc => AF.planted_wf W hdi (hrn name (by simp)) h8 (by omega) hc
    rw [NN'_some', addr_add0]
    refine LdV (v := .map (some nb)) H3.get rfl ⟨_, rfl, ?_⟩
    refine ⟨es, hes, f, hf, DP_ent hl2 ?_⟩
    cases ho : AF.of d.now name with
    | none =>
      show bif (true : Bool) then _ else _
      rw [cond_true, NN'_some', addr_add0]
      refine LdV (v := .map (some nb)) H3.get rfl ⟨_, rfl, ?_⟩
      refine ⟨es, hes, ?_⟩
      rw [hsz]
      by_cases c2 : 4096 ≤ d.now.length
      · rw [decide_eq_true (show ((d.now.length : Int) ≥ 4096) by omega), cond_true, if_pos ⟨rfl, c2⟩]
        exact ⟨rfl, same⟩
      · rw [decide_eq_false (show ¬ ((d.now.length : Int) ≥ 4096) by omega), cond_false, if_neg (fun hh => c2 hh.2)]
        exact plant_tail (Q := fun v h' => v = .int .i64 (((A.planted i name bs, 0) : AF.FS × Nat).2 : Int) ∧ sat (fsP b ((A.planted i name bs, 0) : AF.FS × Nat).1 :: F) h') W (W2 (.inr (by omega))) hq hdi hfi hl (by omega) HT fun h' H' => ⟨rfl, H'⟩
    | some x =>
      show bif (false : Bool) then _ else _
      rw [cond_false, if_neg (fun hh => by cases hh.1)]
      exact plant_tail (Q := fun v h' => v = .int .i64 (((A.planted i name bs, 0) : AF.FS × Nat).2 : Int) ∧ sat (fsP b ((A.planted i name bs, 0) : AF.FS × Nat).1 :: F) h') W (W2 (.inl (by rw [ho]; rfl))) hq hdi hfi hl (by omega) HT fun h' H' => ⟨rfl, H'⟩
  · rw [hfv]
    refine ⟨none, (e : Int), rfl, ?_⟩
    have e0 : e ≠ 0 := by omega
    rw [err_bne e0, cond_true]
    unfold AF.FS.plant
    rw [he]
    exact ⟨rfl, same⟩
end

end Go.Proofs.YticjjdhaikbdaaaGreat

namespace Go.Proofs.YticjjdhaikbdaaaGreat
open Go Go.RowKit
set_option linter.unusedVariables false
set_option linter.unusedSimpArgs false

/-! ### what stays as it is -/
def roS (a : Option Addr) (xs : List Value) : HProp := fun r => (∀ b x, r b = some x → x.2 = true) ∧ ∀ h, sub r h → RdC h a xs
theorem roS_pers (a : Option Addr) (xs : List Value) : Pers (roS a xs) := fun r h => h.1
section
variable {F : List HProp} {h : Heap}
theorem roS_read {a : Option Addr} {xs : List Value} (H : sat (roS a xs :: F) h) : RdC h a xs := by
  obtain ⟨r, ⟨r1, r2, hd, rfl, ⟨_, ho⟩, h2⟩, hs⟩ := H
  exact ho h (sub_left hs)
theorem roS_none (H : sat F h) : sat (roS none [] :: F) h := by
  obtain ⟨r, hr, hs⟩ := H
  obtain ⟨r1, r2, hd, e1, h1, h2⟩ := emp_sep hr
  exact ⟨r, ⟨r1, r2, hd, e1, ⟨fun b x hx => (by rw [h1 b] at hx; cases hx), fun h hs => rfl⟩, h2⟩, hs⟩
theorem roS_of {e sz : Nat} {a : Option Addr} {l c : Nat} {xs : List Value} (H : sat (ownS e sz a l c xs :: F) h) : sat (roS a xs :: F) h := by
  obtain ⟨hl, ⟨rfl, rfl, rfl, rfl, H2⟩ | ⟨b, cells, fr, rfl, hlc, hcm, hcs, hfr, ht, H2⟩⟩ := ownS_cases H
  · exact roS_none H2
  · refine H2.freeze.imp fun r hr => ⟨?_, fun h2 hs => ?_⟩
    · intro c x hx
      rw [hr] at hx
      simp only at hx
      split at hx
      · cases hx; rfl
      · cases hx
    · have hb : h2[b]? = some (.cells cells e fr) := hs b (.cells cells e fr, true) (by rw [hr]; simp)
      intro j v hv
      rw [cell_of_pt hb, ← Array.getElem?_toList]
      rw [← ht, List.getElem?_take] at hv
      split at hv
      · exact hv
      · cases hv
end

/-! ### rows of several cells -/
section
variable {α : Type} {f : α → List Value} {sz : Nat}
theorem flatC_length (hf : ∀ x, (f x).length = sz) (xs : List α) : (xs.flatMap f).length = xs.length * sz := by
  induction xs with
  | nil => simp
  | cons x xs ih => rw [List.flatMap_cons, List.length_append, hf, ih, List.length_cons, Nat.succ_mul, Nat.add_comm]
theorem flatC_get (hf : ∀ x, (f x).length = sz) : ∀ {xs : List α} {i j : Nat} {x : α}, xs[i]? = some x → j < sz → (xs.flatMap f)[i * sz + j]? = (f x)[j]?
  | [], i, j, x, h, _ => by cases h
  | y :: xs, 0, j, x, h, hj => by
    cases h
    rw [List.flatMap_cons, Nat.zero_mul, Nat.zero_add, List.getElem?_append_left (by rw [hf]; exact hj)]
  | y :: xs, i + 1, j, x, h, hj => by
    rw [List.flatMap_cons, List.getElem?_append_right (by rw [hf, Nat.succ_mul]; omega), hf, show (i + 1) * sz + j - sz = i * sz + j by rw [Nat.succ_mul]; omega]
    exact flatC_get hf h hj
theorem flatC_set (hf : ∀ x, (f x).length = sz) : ∀ {xs : List α} {i j : Nat} {x x' : α} {v : Value}, xs[i]? = some x → j < sz → (f x).set j v = f x' → (xs.flatMap f).set (i * sz + j) v = (xs.set i x').flatMap f
  | [], i, j, x, x', v, h, _, _ => by cases h
  | y :: xs, 0, j, x, x', v, h, hj, hx => by
    cases h
    rw [List.flatMap_cons, Nat.zero_mul, Nat.zero_add, List.set_append_left _ _ (by rw [hf]; exact hj), hx]
    rfl
  | y :: xs, i + 1, j, x, x', v, h, hj, hx => by
    rw [List.flatMap_cons, List.set_append_right _ _ (by rw [hf, Nat.succ_mul]; omega), hf, show (i + 1) * sz + j - sz = i * sz + j by rw [Nat.succ_mul]; omega, flatC_set hf (show xs[i]? = some x from h) hj hx]
    rfl
theorem IdxC {a : Option Addr} {l i : Nat} {h : Heap} {xs : List α} {x : α} {K : Addr → Prop} (hf : ∀ x, (f x).length = sz) (hp : 0 < sz) (H : RdC h a (xs.flatMap f)) (hl : xs.length = l) (hi : xs[i]? = some x)
    (hK : ∀ b, a = some b → (∀ j v, (f x)[j]? = some v → cellAt h ((b.add (i * sz)).add j) = some v) → K (b.add (i * sz))) : IdxA a l (i : Int) sz K := by
  have each : ∀ j v, (f x)[j]? = some v → (xs.flatMap f)[i * sz + j]? = some v := fun j v hv => by
    have := (List.getElem?_eq_some_iff.1 hv).1
    rw [hf] at this
    rw [flatC_get hf hi this, hv]
  obtain ⟨v0, hv0⟩ : ∃ v, (f x)[0]? = some v := ⟨_, List.getElem?_eq_getElem (by rw [hf]; exact hp)⟩
  obtain ⟨b, hb, _⟩ := H.nilOr (each 0 v0 hv0)
  have := (List.getElem?_eq_some_iff.1 hi).1
  refine ⟨b, hb, by omega, by omega, ?_⟩
  rw [Int.toNat_natCast]
  subst hb
  refine hK b rfl fun j v hv => ?_
  rw [addr_add_add]
  exact H _ _ (each j v hv)
theorem ownC_set {h : Heap} {F : List HProp} {e : TypeId} {b : Addr} {l c i j : Nat} {xs : List α} {x : α} (x' : α) {v : Value} {K : Heap → Prop} (hf : ∀ x, (f x).length = sz) (H : sat (ownS e sz (some b) l c (xs.flatMap f) :: F) h) (hi : xs[i]? = some x) (hj : j < sz) (hx : (f x).set j v = f x')
    (hK : ∀ h', sat (ownS e sz (some b) l c ((xs.set i x').flatMap f) :: F) h' → K h') : StC h (((b.add (i * sz)).add j).add 0) v K := by
  rw [addr_add0, addr_add_add]
  have hlt := (List.getElem?_eq_some_iff.1 hi).1
  have hm : (i + 1) * sz ≤ xs.length * sz := Nat.mul_le_mul_right _ hlt
  rw [Nat.succ_mul] at hm
  refine ownS_set H (by rw [flatC_length hf]; omega) fun h' H' => hK h' ?_
  rw [flatC_set hf hi hj hx] at H'
  exact H'
/-- One element more. -/
theorem pushEl {P : Program} {t e : TypeId} {by_ : Nat} {xs : List α} {x : α} {cs : Array Value} {a : Option Addr} {l c : Nat} {F : List HProp} {h : Heap} {K : Heap → Option Addr → Nat → Nat → Prop} (ht : P.underlying t = some (.slice e)) (hu : srcTy P t = true) (hi : infoSz P e sz by_ = true)
    (hf : ∀ x, (f x).length = sz) (h1 : ∀ u ∈ f x, u.oneCell' = true) (hcs : cs.toList = f x) (hl : xs.length = l) (hb : (l + 1) * by_ ≤ 140737488355328) (H : sat (ownS e sz a l c (xs.flatMap f) :: F) h)
    (hK : ∀ a' c' h', sat (ownS e sz a' (l + 1) c' ((xs ++ [x]).flatMap f) :: F) h' → K h' a' (l + 1) c') :
    Al h (.cells cs e) fun b1 h1 => RunH P (Builtin.append_ #[t, t] t #[.slice a l c, .slice (some (Addr.mk b1 0 none)) 1 1]) h1 fun r h2 => DSl r fun a' l' c' => K h2 a' l' c' := by
  refine Al_sat H fun b1 h2 H2 => ?_
  refine appendN ht hu hi (H2.mv 1) (n := 1) (srcOf_slice (RdCf H2 hcs) (by rw [hf, Nat.one_mul])) h1 hb fun a' c' h3 _ H3 => ?_
  rw [DSl_slice]
  refine hK a' c' h3 ?_
  rw [List.flatMap_append, List.flatMap_cons, List.flatMap_nil, List.append_nil]
  exact (H3.mv 1).drop
end

/-! ### the document's data -/
def nameC (p : ByteArray × Nat) : List Value := [.string p.1, .int .i64 (p.2 : Int)]
def opC : AF.Op → List Value
  | .create n f => [.int .i64 1, .string n, .string .empty, .int .i64 (f : Int)]
  | .rename a b => [.int .i64 2, .string a, .string b, .int .i64 0]
  | .remove a => [.int .i64 3, .string a, .string .empty, .int .i64 0]
def fileRC (x : AF.File) : List Value := [.string (ofN x.b), .int .i64 (x.safe : Int)]
structure RDir where
  na : Option Addr
  nc : Nat
  ba : Option Addr
  bc : Nat
  pa : Option Addr
  pc : Nat
def dirRC (p : AF.Dir × RDir) : List Value := [.string p.1.name, .slice p.2.na p.1.now.length p.2.nc, .slice p.2.ba p.1.base.length p.2.bc, .slice p.2.pa p.1.pend.length p.2.pc]
theorem nameC_len (p : ByteArray × Nat) : (nameC p).length = 2 := rfl
theorem opC_len (o : AF.Op) : (opC o).length = 4 := by cases o <;> rfl
theorem fileRC_len (x : AF.File) : (fileRC x).length = 2 := rfl
theorem dirRC_len (p : AF.Dir × RDir) : (dirRC p).length = 4 := rfl
def dirRP (d : AF.Dir) (q : RDir) : HProp := Many [roS q.na (d.now.flatMap nameC), roS q.ba (d.base.flatMap nameC), roS q.pa (d.pend.flatMap opC)]
structure RefQ where
  fa : Option Addr
  fc : Nat
  da : Option Addr
  dc : Nat
  qs : List RDir
def refC (A : AF.FS) (q : RefQ) : Array Value := #[.int .i64 (A.room : Int), .int .i64 (A.steps : Int), .int .i64 (fuseI A.fuse), .bool A.off, .slice q.fa A.files.length q.fc, .slice q.da A.dirs.length q.dc]
def filesR (A : AF.FS) (q : RefQ) : HProp := ownS 202 2 q.fa A.files.length q.fc (A.files.flatMap fileRC)
def dirsR (A : AF.FS) (q : RefQ) : HProp := ownS 127 4 q.da A.dirs.length q.dc ((A.dirs.zip q.qs).flatMap dirRC)
def listsR (A : AF.FS) (q : RefQ) : HProp := Many (List.zipWith dirRP A.dirs q.qs)
def refP (m : Nat) (A : AF.FS) : HProp := exi fun q : RefQ => Many [pur (q.qs.length = A.dirs.length), pt m (.cells (refC A q) 97 (0, 0)), filesR A q, dirsR A q, listsR A q]
section
variable {m : Nat} {A : AF.FS} {F : List HProp} {h : Heap}
theorem refP_open (H : sat (refP m A :: F) h) : ∃ q : RefQ, q.qs.length = A.dirs.length ∧ sat (pt m (.cells (refC A q) 97 (0, 0)) :: filesR A q :: dirsR A q :: listsR A q :: F) h := by
  obtain ⟨q, H2⟩ := sat_exi.1 H
  obtain ⟨hq, H3⟩ := sat_pur.1 H2.open
  exact ⟨q, hq, H3⟩
theorem refP_shut {q : RefQ} (hq : q.qs.length = A.dirs.length) (H : sat (pt m (.cells (refC A q) 97 (0, 0)) :: filesR A q :: dirsR A q :: listsR A q :: F) h) : sat (refP m A :: F) h :=
  sat_exi.2 ⟨q, sat.shut (m := [pur (q.qs.length = A.dirs.length), pt m (.cells (refC A q) 97 (0, 0)), filesR A q, dirsR A q, listsR A q]) (sat_pur.2 ⟨hq, H⟩)⟩
/-- A directory's cells and lists. -/
theorem rdir_read {q : RefQ} {i : Nat} {d : AF.Dir} (hq : q.qs.length = A.dirs.length) (hi : A.dirs[i]? = some d) (H : sat (dirsR A q :: listsR A q :: F) h) :
    ∃ x : RDir, q.qs[i]? = some x ∧ (A.dirs.zip q.qs)[i]? = some (d, x) ∧ RdC h x.na (d.now.flatMap nameC) ∧ RdC h x.ba (d.base.flatMap nameC) ∧ RdC h x.pa (d.pend.flatMap opC) := by
  have hlt := (List.getElem?_eq_some_iff.1 hi).1
  obtain ⟨x, hx⟩ : ∃ x, q.qs[i]? = some x := ⟨_, List.getElem?_eq_getElem (by omega)⟩
  refine ⟨x, hx, ?_, ?_⟩
  · rw [List.zip, List.getElem?_zipWith, hi, hx]
  · have H2 : sat (List.zipWith dirRP A.dirs q.qs ++ (dirsR A q :: F)) h := (H.mv 1).open
    have H3 := (H2.focus (i := i) (A := dirRP d x) (by rw [List.getElem?_zipWith, hi, hx])).open
    exact ⟨roS_read H3, roS_read (H3.mv 1), roS_read (H3.mv 2)⟩
theorem zip_len {q : RefQ} (hq : q.qs.length = A.dirs.length) : (A.dirs.zip q.qs).length = A.dirs.length := by rw [List.length_zip, hq, Nat.min_self]
theorem strEq_dec (a b : ByteArray) : strEq a b = decide (a = b) := by
  rw [strEq_eq]
  by_cases e : a = b
  · rw [decide_eq_true e, decide_eq_true (by rw [e])]
  · rw [decide_eq_false e, decide_eq_false (fun hh => e (sb_inj hh))]
/-- New. -/
theorem F11_spec {room : Nat} (H : sat F h) (hr : room ≤ 1073741824) :
    CallsH Tryz.prog 11 [.int .i64 (room : Int)] h fun v h' => ∃ m, v = .tuple #[ptrV m, .int .i64 0] ∧ sat (refP m ⟨room, 0, none, false, [], []⟩ :: F) h' := by
  apply F11b_ok
  unfold F11b
  rw [decide_eq_false (show ¬ ((room : Int) < 0) by omega), cond_false, decide_eq_false (show ¬ ((room : Int) > 1073741824) by omega), cond_false]
  refine Al_sat H fun m h1 H1 => ⟨m, rfl, ?_⟩
  refine refP_shut (q := ⟨none, 0, none, 0, []⟩) rfl ?_
  have H2 : sat (listsR ⟨room, 0, none, false, [], []⟩ ⟨none, 0, none, 0, []⟩ :: pt m (.cells (refC ⟨room, 0, none, false, [], []⟩ ⟨none, 0, none, 0, []⟩) 97 (0, 0)) :: F) h1 := many_nil H1
  exact (ownS_nil 202 2 (ownS_nil 127 4 H2)).ordT 4 [3, 0, 1, 2]
/-- A step. -/
theorem F131_spec (W : A.WF) (hs : A.steps < 1099511627776) (H : sat (refP m A :: F) h) :
    CallsH Tryz.prog 131 [ptrV m] h fun v h' => (A.fuse = some 0 ∧ v = .int .i64 60 ∧ sat (refP m { A with off := true } :: F) h') ∨ (A.fuse ≠ some 0 ∧ v = .int .i64 0 ∧ sat (refP m A.stepOn :: F) h') := by
  apply F131b_ok
  unfold F131b
  obtain ⟨q, hq, H1⟩ := refP_open H
  simp only [NN'_some', addr_add0]
  refine LdInt (x := fuseI A.fuse) H1 rfl ?_
  have shutF : ∀ (B : AF.FS) (h' : Heap), B.files = A.files → B.dirs = A.dirs → sat (pt m (.cells (refC B q) 97 (0, 0)) :: filesR A q :: dirsR A q :: listsR A q :: F) h' → sat (refP m B :: F) h' := by
    intro B h' e1 e2 H'
    refine refP_shut (q := q) (by rw [e2]; exact hq) ?_
    unfold filesR dirsR listsR at H' ⊢
    rw [e1, e2]
    exact H'
  have onC : ∀ (k : Int), k = fuseI A.stepOn.fuse → (#[.int .i64 (A.room : Int), .int .i64 ((A.steps + 1 : Nat) : Int), .int .i64 k, .bool A.off, .slice q.fa A.files.length q.fc, .slice q.da A.dirs.length q.dc] : Array Value) = refC A.stepOn q := fun k e => by subst e; rfl
  have hcase : A.fuse = none ∨ A.fuse = some 0 ∨ ∃ n, A.fuse = some (n + 1) := by
    cases A.fuse with
    | none => exact .inl rfl
    | some n =>
      cases n with
      | zero => exact .inr (.inl rfl)
      | succ n => exact .inr (.inr ⟨n, rfl⟩)
  rcases hcase with hf | hf | ⟨n, hf⟩
  · have e0 : fuseI A.fuse = -1 := by rw [hf]; rfl
    rw [e0, show ((-1 : Int) == 0) = false from rfl, cond_false]
    refine LdInt (x := fuseI A.fuse) H1 rfl ?_
    rw [e0, decide_eq_false (show ¬ (-1 : Int) > 0 by decide), cond_false]
    refine LdInt (x := (A.steps : Int)) H1 rfl ?_
    rw [wrap64_succ (by omega)]
    refine StCC (c' := refC A.stepOn q) H1 (by show 1 < 6; decide) (onC (fuseI A.fuse) (by unfold AF.FS.stepOn; dsimp only; rw [hf]; rfl)) fun h2 H2 => ?_
    exact .inr ⟨by rw [hf]; simp, by trivial, shutF A.stepOn h2 rfl rfl H2⟩
  · have e0 : fuseI A.fuse = 0 := by rw [hf]; rfl
    rw [e0, show ((0 : Int) == 0) = true from rfl, cond_true]
    refine StCC (c' := refC { A with off := true } q) H1 (by show 3 < 6; decide) rfl fun h2 H2 => ?_
    exact .inl ⟨hf, by trivial, shutF _ h2 rfl rfl H2⟩
  · have hn := W.fuse _ hf
    have e0 : fuseI A.fuse = ((n + 1 : Nat) : Int) := by rw [hf]; rfl
    rw [e0, show (((n + 1 : Nat) : Int) == 0) = false by rw [beq_eq_false_iff_ne]; omega, cond_false]
    refine LdInt (x := fuseI A.fuse) H1 rfl ?_
    rw [e0, decide_eq_true (show ((n + 1 : Nat) : Int) > 0 by omega), cond_true]
    refine LdInt (x := fuseI A.fuse) H1 rfl ?_
    have w : IntKind.wrap .i64 (fuseI A.fuse - 1) = (n : Int) := by
      rw [e0, IntWalk.i64_in _ (by omega)]
      omega
    rw [w]
    refine StCC (c' := #[.int .i64 (A.room : Int), .int .i64 (A.steps : Int), .int .i64 (n : Int), .bool A.off, .slice q.fa A.files.length q.fc, .slice q.da A.dirs.length q.dc]) H1 (by show 2 < 6; decide) rfl fun h2 H2 => ?_
    refine LdInt (x := (A.steps : Int)) H2 rfl ?_
    rw [wrap64_succ (by omega)]
    refine StCC (c' := refC A.stepOn q) H2 (by show 1 < 6; decide) (onC (n : Int) (by unfold AF.FS.stepOn; dsimp only; rw [hf]; rfl)) fun h3 H3 => ?_
    exact .inr ⟨by rw [hf]; simp, by trivial, shutF A.stepOn h3 rfl rfl H3⟩
/-- The file of an entry. -/
def ofI (o : Option Nat) : Int := match o with
  | some x => (x : Int)
  | none => -1
theorem of_at {l : AF.Names} {name : ByteArray} {i : Nat} (h0 : ∀ (j : Nat) (p : ByteArray × Nat), j < i → l[j]? = some p → p.1 ≠ name) {p : ByteArray × Nat} (hp : l[i]? = some p) (hn : p.1 = name) : AF.of l name = some p.2 := by
  unfold AF.of
  have : l.find? (fun p => decide (p.1 = name)) = some p := by
    rw [List.find?_eq_some_iff_getElem]
    obtain ⟨hlt, he⟩ := List.getElem?_eq_some_iff.1 hp
    refine ⟨decide_eq_true hn, i, hlt, he, fun j hj => ?_⟩
    have := h0 j l[j] hj (List.getElem?_eq_getElem (by omega))
    simpa using this
  rw [this]
  rfl
theorem of_no {l : AF.Names} {name : ByteArray} (h0 : ∀ (j : Nat) (p : ByteArray × Nat), l[j]? = some p → p.1 ≠ name) : AF.of l name = none := by
  unfold AF.of
  have : l.find? (fun p => decide (p.1 = name)) = none := by
    rw [List.find?_eq_none]
    intro p hp
    obtain ⟨j, hj⟩ := List.getElem?_of_mem hp
    have := h0 j p hj
    simpa using this
  rw [this]
  rfl
theorem F130_spec {a : Option Addr} {n c : Nat} {l : AF.Names} {name : ByteArray} (hr : RdC h a (l.flatMap nameC)) (hl : l.length = n) (hm : n < 4611686018427387904) :
    CallsH Tryz.prog 130 [.slice a n c, .string name] h fun v h' => v = .int .i64 (ofI (AF.of l name)) ∧ h' = h := by
  apply F130b_ok
  unfold F130b
  refine ⟨fun st hh => hh = h ∧ ∃ i : Nat, st = (i : Int) ∧ i ≤ n ∧ ∀ (j : Nat) (p : ByteArray × Nat), j < i → l[j]? = some p → p.1 ≠ name, fun st _ => ((n : Int) - st).toNat, ⟨rfl, 0, rfl, Nat.zero_le _, fun j p hj => by omega⟩, ?_⟩
  rintro st h1 ⟨rfl, i, rfl, hi, hno⟩
  by_cases hlt : i < n
  · rw [decide_eq_true (show ((i : Int) < (n : Int)) by omega), cond_true]
    obtain ⟨p, hp⟩ : ∃ p, l[i]? = some p := ⟨_, List.getElem?_eq_getElem (by omega)⟩
    refine IdxC nameC_len (by decide) hr hl hp fun b hb hc => CStr (hc 0 _ rfl) ?_
    rw [strEq_dec]
    by_cases hn : p.1 = name
    · rw [decide_eq_true hn, cond_true]
      refine IdxC nameC_len (by decide) hr hl hp fun b hb hc => CInt (hc 1 _ rfl) ?_
      rw [of_at hno hp hn]
      exact ⟨rfl, rfl⟩
    · rw [decide_eq_false hn, cond_false, wrap64_succ (by omega)]
      refine ⟨⟨rfl, i + 1, rfl, by omega, fun j p' hj hp' => ?_⟩, by show ((n : Int) - ((i + 1 : Nat) : Int)).toNat < ((n : Int) - (i : Int)).toNat; omega⟩
      by_cases hji : j = i
      · subst hji
        rw [hp] at hp'
        cases hp'
        exact hn
      · exact hno j p' (by omega) hp'
  · rw [decide_eq_false (by omega), cond_false, of_no fun j p hp => hno j p (by have := (List.getElem?_eq_some_iff.1 hp).1; omega) hp]
    exact ⟨rfl, rfl⟩
end

end Go.Proofs.YticjjdhaikbdaaaGreat

namespace Go.Proofs.YticjjdhaikbdaaaGreat
open Go Go.RowKit
set_option linter.unusedVariables false
set_option linter.unusedSimpArgs false

theorem u118 : Tryz.prog.underlying 124 = some (.slice 194) := by kernel_rfl
theorem src118 : srcTy Tryz.prog 124 = true := by kernel_rfl
theorem inf163 : infoSz Tryz.prog 194 2 24 = true := by kernel_rfl
section
variable {m : Nat} {A : AF.FS} {F : List HProp} {h : Heap} {dir name : ByteArray}
theorem nameC_cell (p : ByteArray × Nat) : ∀ u ∈ nameC p, u.oneCell' = true := by
  intro u hu
  simp [nameC] at hu
  rcases hu with rfl | rfl <;> rfl
/-- Is it a name? -/
theorem F166_spec {s : ByteArray} : CallsH Tryz.prog 166 [.string s] h fun v h' => v = .bool (AF.right s) ∧ h' = h := by
  apply F166b_ok
  unfold F166b
  by_cases h1 : s.size < 1
  · rw [decide_eq_true (show ((s.size : Int) < 1) by omega), cond_true]
    refine ⟨congrArg Value.bool ?_, rfl⟩
    unfold AF.right
    rw [decide_eq_false (show ¬ 1 ≤ s.size by omega)]
    rfl
  rw [decide_eq_false (show ¬ ((s.size : Int) < 1) by omega), cond_false]
  by_cases h2 : s.size > 32
  · rw [decide_eq_true (show ((s.size : Int) > 32) by omega), cond_true]
    refine ⟨congrArg Value.bool ?_, rfl⟩
    unfold AF.right
    rw [decide_eq_false (show ¬ s.size ≤ 32 by omega), Bool.and_false]
    rfl
  rw [decide_eq_false (show ¬ ((s.size : Int) > 32) by omega), cond_false]
  have er : AF.right s = (sb s).all fun c => (decide (97 ≤ c) && decide (c ≤ 122)) || (decide (48 ≤ c) && decide (c ≤ 57)) || decide (c = 46) := by
    unfold AF.right
    rw [decide_eq_true (show 1 ≤ s.size by omega), decide_eq_true (show s.size ≤ 32 by omega), Bool.and_self, Bool.true_and, sb, nb, List.all_map]
    rfl
  rw [er]
  have hsl := sb_length s
  let ok : Nat → Bool := fun c => (decide (97 ≤ c) && decide (c ≤ 122)) || (decide (48 ≤ c) && decide (c ≤ 57)) || decide (c = 46)
  show LoopH _ 0 h
  refine ⟨fun st hh => hh = h ∧ ∃ i : Nat, st = (i : Int) ∧ i ≤ s.size ∧ ∀ c ∈ (sb s).take i, ok c = true, fun st _ => ((s.size : Int) - st).toNat, ⟨rfl, 0, rfl, Nat.zero_le _, by simp⟩, ?_⟩
  rintro st h1 ⟨rfl, i, rfl, hi, hok⟩
  by_cases hlt : i < s.size
  · rw [decide_eq_true (show ((i : Int) < (s.size : Int)) by omega), cond_true]
    obtain ⟨c, hc⟩ : ∃ c, (sb s)[i]? = some c := ⟨_, List.getElem?_eq_getElem (by omega)⟩
    refine ⟨by omega, by omega, ?_⟩
    rw [bt_sb hc, wrap64_succ (by omega)]
    have on : ok c = true → (h1 = h1 ∧ ∃ i_1 : Nat, ((i + 1 : Nat) : Int) = (i_1 : Int) ∧ i_1 ≤ s.size ∧ ∀ c ∈ (sb s).take i_1, ok c = true) ∧ ((s.size : Int) - ((i + 1 : Nat) : Int)).toNat < ((s.size : Int) - (i : Int)).toNat := by
      intro hcok
      refine ⟨⟨rfl, i + 1, rfl, by omega, fun c' hc' => ?_⟩, by omega⟩
      rw [List.take_add_one, hc] at hc'
      rcases List.mem_append.1 hc' with hc' | hc'
      · exact hok c' hc'
      · have : c' = c := by simpa using hc'
        rw [this]
        exact hcok
    have off : ok c = false → (Value.bool false = Value.bool ((sb s).all ok) ∧ h1 = h1) := by
      intro hcok
      refine ⟨congrArg Value.bool ?_, rfl⟩
      symm
      rw [List.all_eq_false]
      exact ⟨c, List.mem_of_getElem? hc, by rw [hcok]; simp⟩
    by_cases a1 : 97 ≤ c
    · rw [decide_eq_true (show ((c : Int) ≥ 97) by omega), cond_true]
      by_cases a2 : c ≤ 122
      · rw [decide_eq_true (show ((c : Int) ≤ 122) by omega), cond_true]
        exact on (by show ((decide (97 ≤ c) && decide (c ≤ 122)) || (decide (48 ≤ c) && decide (c ≤ 57)) || decide (c = 46)) = true; rw [decide_eq_true a1, decide_eq_true a2]; rfl)
      · rw [decide_eq_false (show ¬ ((c : Int) ≤ 122) by omega), cond_false, decide_eq_true (show ((c : Int) ≥ 48) by omega), cond_true, decide_eq_false (show ¬ ((c : Int) ≤ 57) by omega), cond_false,
          show ((c : Int) == 46) = false by rw [beq_eq_false_iff_ne]; omega]
        exact off (by show ((decide (97 ≤ c) && decide (c ≤ 122)) || (decide (48 ≤ c) && decide (c ≤ 57)) || decide (c = 46)) = false; rw [decide_eq_false a2, decide_eq_false (show ¬ c ≤ 57 by omega), decide_eq_false (show ¬ c = 46 by omega)]; simp)
    · rw [decide_eq_false (show ¬ ((c : Int) ≥ 97) by omega), cond_false]
      by_cases a3 : 48 ≤ c
      · rw [decide_eq_true (show ((c : Int) ≥ 48) by omega), cond_true]
        by_cases a4 : c ≤ 57
        · rw [decide_eq_true (show ((c : Int) ≤ 57) by omega), cond_true]
          exact on (by show ((decide (97 ≤ c) && decide (c ≤ 122)) || (decide (48 ≤ c) && decide (c ≤ 57)) || decide (c = 46)) = true; rw [decide_eq_true a3, decide_eq_true a4]; simp)
        · rw [decide_eq_false (show ¬ ((c : Int) ≤ 57) by omega), cond_false, show ((c : Int) == 46) = false by rw [beq_eq_false_iff_ne]; omega]
          exact off (by show ((decide (97 ≤ c) && decide (c ≤ 122)) || (decide (48 ≤ c) && decide (c ≤ 57)) || decide (c = 46)) = false; rw [decide_eq_false a1, decide_eq_false a4, decide_eq_false (show ¬ c = 46 by omega)]; simp)
      · rw [decide_eq_false (show ¬ ((c : Int) ≥ 48) by omega), cond_false]
        by_cases a5 : c = 46
        · rw [show ((c : Int) == 46) = true by rw [a5]; rfl]
          exact on (by show ((decide (97 ≤ c) && decide (c ≤ 122)) || (decide (48 ≤ c) && decide (c ≤ 57)) || decide (c = 46)) = true; rw [decide_eq_true a5]; simp)
        · rw [show ((c : Int) == 46) = false by rw [beq_eq_false_iff_ne]; omega]
          exact off (by show ((decide (97 ≤ c) && decide (c ≤ 122)) || (decide (48 ≤ c) && decide (c ≤ 57)) || decide (c = 46)) = false; rw [decide_eq_false a1, decide_eq_false a3, decide_eq_false a5]; simp)
  · rw [decide_eq_false (by omega), cond_false]
    have ei : i = s.size := by omega
    refine ⟨congrArg Value.bool ?_, rfl⟩
    symm
    rw [List.all_eq_true]
    rw [ei, ← hsl, List.take_length] at hok
    exact hok
/-- A directory's place. -/
theorem F167_spec {q : RefQ} (hq : q.qs.length = A.dirs.length) (hm : A.dirs.length < 4611686018427387904) (H : sat (pt m (.cells (refC A q) 97 (0, 0)) :: filesR A q :: dirsR A q :: listsR A q :: F) h) :
    CallsH Tryz.prog 167 [ptrV m, .string dir] h fun v h' => v = .int .i64 (ofI (A.at dir)) ∧ h' = h := by
  apply F167b_ok
  unfold F167b
  simp only [NN'_some']
  have hr : RdC h q.da ((A.dirs.zip q.qs).flatMap dirRC) := ownS_read (H.mv 2)
  refine ⟨fun st hh => hh = h ∧ ∃ i : Nat, st = (i : Int) ∧ i ≤ A.dirs.length ∧ ∀ (j : Nat) (d : AF.Dir), j < i → A.dirs[j]? = some d → d.name ≠ dir, fun st _ => ((A.dirs.length : Int) - st).toNat, ⟨rfl, 0, rfl, Nat.zero_le _, fun j p hj => by omega⟩, ?_⟩
  rintro st h1 ⟨rfl, i, rfl, hi, hno⟩
  refine LdSl (a := q.da) (l := A.dirs.length) (m := q.dc) H rfl ?_
  by_cases hlt : i < A.dirs.length
  · rw [decide_eq_true (show ((i : Int) < (A.dirs.length : Int)) by omega), cond_true]
    obtain ⟨d, hd⟩ : ∃ d, A.dirs[i]? = some d := ⟨_, List.getElem?_eq_getElem hlt⟩
    obtain ⟨x, hx, hz, _⟩ := rdir_read hq hd (H.mv 3 |>.mv 3)
    refine LdSl (a := q.da) (l := A.dirs.length) (m := q.dc) H rfl ?_
    refine IdxC dirRC_len (by decide) hr (zip_len hq) hz fun b hb hc => CStr (hc 0 _ rfl) ?_
    rw [strEq_dec]
    by_cases hn : d.name = dir
    · rw [decide_eq_true hn, cond_true]
      have : A.at dir = some i := by
        unfold AF.FS.at
        rw [List.findIdx?_eq_some_iff_getElem]
        obtain ⟨hil, he⟩ := List.getElem?_eq_some_iff.1 hd
        refine ⟨hil, by rw [he]; exact decide_eq_true hn, fun j hj => ?_⟩
        have := hno j A.dirs[j] hj (List.getElem?_eq_getElem (by omega))
        simpa using this
      rw [this]
      exact ⟨rfl, rfl⟩
    · rw [decide_eq_false hn, cond_false, wrap64_succ (by omega)]
      refine ⟨⟨rfl, i + 1, rfl, by omega, fun j d' hj hd' => ?_⟩, by show ((A.dirs.length : Int) - ((i + 1 : Nat) : Int)).toNat < ((A.dirs.length : Int) - (i : Int)).toNat; omega⟩
      by_cases hji : j = i
      · subst hji
        rw [hd] at hd'
        cases hd'
        exact hn
      · exact hno j d' (by omega) hd'
  · rw [decide_eq_false (by omega), cond_false]
    have : A.at dir = none := by
      unfold AF.FS.at
      rw [List.findIdx?_eq_none_iff]
      intro d hd
      obtain ⟨j, hj⟩ := List.getElem?_of_mem hd
      have := hno j d (by have := (List.getElem?_eq_some_iff.1 hj).1; omega) hj
      simpa using this
    rw [this]
    exact ⟨rfl, rfl⟩
/-- What names and a directory come to. -/
def namedV : Except Nat Nat → Value
  | .ok i => .tuple #[.int .i64 (i : Int), .int .i64 0]
  | .error e => .tuple #[.int .i64 (-1), .int .i64 (e : Int)]
theorem F139_spec {a b : ByteArray} (hm : A.dirs.length < 4611686018427387904) (H : sat (refP m A :: F) h) :
    CallsH Tryz.prog 139 [ptrV m, .string dir, .string a, .string b] h fun v h' => v = namedV (A.named dir [a, b]) ∧ h' = h := by
  apply F139b_ok
  unfold F139b
  refine F166_spec.mono ?_
  rintro v h1 ⟨rfl, rfl⟩
  rw [DB_bool]
  cases r1 : AF.right dir with
  | false =>
    refine ⟨?_, rfl⟩
    unfold AF.FS.named
    rw [r1]
    rfl
  | true =>
    rw [Bool.not_true, cond_false]
    refine F166_spec.mono ?_
    rintro v h1 ⟨rfl, rfl⟩
    rw [DB_bool]
    cases r2 : AF.right a with
    | false =>
      refine ⟨?_, rfl⟩
      unfold AF.FS.named
      rw [r1, List.all_cons, r2]
      rfl
    | true =>
      rw [Bool.not_true, cond_false]
      refine F166_spec.mono ?_
      rintro v h1 ⟨rfl, rfl⟩
      rw [DB_bool]
      cases r3 : AF.right b with
      | false =>
        refine ⟨?_, rfl⟩
        unfold AF.FS.named
        rw [r1, List.all_cons, List.all_cons, r2, r3]
        rfl
      | true =>
        rw [Bool.not_true, cond_false]
        obtain ⟨q, hq, H1⟩ := refP_open H
        refine (F167_spec hq hm H1).mono ?_
        rintro v h1 ⟨rfl, rfl⟩
        rw [DI_int]
        have e : A.named dir [a, b] = match A.at dir with
            | some i => .ok i
            | none => .error 61 := by
          unfold AF.FS.named
          rw [r1, List.all_cons, List.all_cons, r2, r3]
          rfl
        rw [e]
        cases A.at dir with
        | none =>
          rw [show ofI none = -1 from rfl, decide_eq_true (by decide), cond_true]
          exact ⟨rfl, rfl⟩
        | some i =>
          rw [show ofI (some i) = (i : Int) from rfl, decide_eq_false (by omega), cond_false]
          exact ⟨rfl, rfl⟩
theorem F127_spec {a b : ByteArray} (hm : A.dirs.length < 4611686018427387904) (H : sat (refP m A :: F) h) :
    CallsH Tryz.prog 127 [ptrV m, .string dir, .string a, .string b] h fun v h' => v = namedV (A.ready dir [a, b]) ∧ h' = h := by
  apply F127b_ok
  unfold F127b
  obtain ⟨q, hq, H1⟩ := refP_open H
  simp only [NN'_some']
  refine LdC (v := .bool A.off) H1 rfl ?_
  rw [DB_bool]
  unfold AF.FS.ready
  cases A.off with
  | true => exact ⟨rfl, by trivial⟩
  | false =>
    rw [cond_false]
    refine (F139_spec hm H).mono ?_
    rintro v h1 ⟨rfl, rfl⟩
    cases A.named dir [a, b] with
    | ok i => exact ⟨_, _, rfl, rfl, rfl⟩
    | error e => exact ⟨_, _, rfl, rfl, rfl⟩
theorem named_self : A.named dir [dir, dir] = A.named dir [] := by
  unfold AF.FS.named
  rw [List.all_cons, List.all_cons]
  cases AF.right dir <;> rfl
theorem ready_self : A.ready dir [dir, dir] = A.ready dir [] := by unfold AF.FS.ready; rw [named_self]
theorem named_two : A.named dir [name, name] = A.named dir [name] := by
  unfold AF.FS.named
  rw [List.all_cons, List.all_cons]
  cases AF.right dir <;> cases AF.right name <;> rfl
theorem ready_two : A.ready dir [name, name] = A.ready dir [name] := by unfold AF.FS.ready; rw [named_two]
/-- What an entry comes to. -/
def entryV : Except Nat (Nat × Nat) → Value
  | .ok (i, x) => .tuple #[.int .i64 (i : Int), .int .i64 (x : Int), .int .i64 0]
  | .error e => .tuple #[.int .i64 (-1), .int .i64 (-1), .int .i64 (e : Int)]
theorem ready_err {ss : List ByteArray} {e : Nat} (h : A.ready dir ss = .error e) : e ≠ 0 := by
  unfold AF.FS.ready AF.FS.named at h
  split at h
  · cases h; decide
  · split at h
    · split at h
      · cases h
      · cases h; decide
    · cases h; decide
theorem F128_spec (W : A.WF) (H : sat (refP m A :: F) h) : CallsH Tryz.prog 128 [ptrV m, .string dir, .string name] h fun v h' => v = entryV (A.entry dir name) ∧ h' = h := by
  apply F128b_ok
  unfold F128b
  have hfew := W.few
  refine (F127_spec (by omega) H).mono ?_
  rintro v h1 ⟨rfl, rfl⟩
  rw [ready_two]
  unfold AF.FS.entry
  cases hr : A.ready dir [name] with
  | error e =>
    have e0 := ready_err hr
    refine ⟨_, _, rfl, ?_⟩
    rw [err_bne e0, cond_true]
    exact ⟨rfl, rfl⟩
  | ok i =>
    obtain ⟨_, _, _, _, d, hd, hdn⟩ := AF.ready_ok hr
    have hD := AF.D_of hd
    refine ⟨_, _, rfl, ?_⟩
    rw [show ((0 : Int) != 0) = false from rfl, cond_false]
    obtain ⟨q, hq, H1⟩ := refP_open H
    obtain ⟨x, hx, hz, hn, _, _⟩ := rdir_read hq hd (H1.mv 3 |>.mv 3)
    simp only [NN'_some']
    refine LdSl (a := q.da) (l := A.dirs.length) (m := q.dc) H1 rfl ?_
    refine IdxC dirRC_len (by decide) (ownS_read (H1.mv 2)) (zip_len hq) hz fun b hb hc => CSl (hc 1 _ rfl) ?_
    have hnl := (W.each d (List.mem_of_getElem? hd)).ok.few
    refine (F130_spec hn rfl (by omega)).mono ?_
    rintro v h2 ⟨rfl, rfl⟩
    rw [DI_int, hD]
    cases AF.of d.now name with
    | none =>
      rw [show ofI none = -1 from rfl, decide_eq_true (by decide), cond_true]
      exact ⟨rfl, rfl⟩
    | some x =>
      rw [show ofI (some x) = (x : Int) from rfl, decide_eq_false (by omega), cond_false]
      exact ⟨rfl, rfl⟩
end

end Go.Proofs.YticjjdhaikbdaaaGreat

namespace Go.Proofs.YticjjdhaikbdaaaGreat
open Go Go.RowKit
set_option linter.unusedVariables false
set_option linter.unusedSimpArgs false

section
variable {F : List HProp} {h : Heap} {name : ByteArray}
/-- Entries that are owned. -/
def NamesOwn (l : AF.Names) (F : List HProp) (v : Value) (h' : Heap) : Prop := ∃ (a : Option Addr) (c : Nat), v = .slice a l.length c ∧ sat (ownS 194 2 a l.length c (l.flatMap nameC) :: F) h'
theorem F165_spec {a : Option Addr} {n c : Nat} {l : AF.Names} (hr : ∀ h', sat F h' → RdC h' a (l.flatMap nameC)) (hl : l.length = n) (hm : n ≤ 100000) (H : sat F h) :
    CallsH Tryz.prog 165 [.slice a n c, .string name] h (NamesOwn (AF.drop l name) F) := by
  apply F165b_ok
  unfold F165b
  refine ⟨fun st hh => ∃ (i : Nat) (oa : Option Addr) (oc : Nat), st = (⟨oa, (AF.drop (l.take i) name).length, oc⟩, (i : Int)) ∧ i ≤ n ∧ sat (ownS 194 2 oa (AF.drop (l.take i) name).length oc ((AF.drop (l.take i) name).flatMap nameC) :: F) hh,
    fun st _ => ((n : Int) - st.2).toNat, ⟨0, none, 0, rfl, Nat.zero_le _, ownS_nil 194 2 H⟩, ?_⟩
  rintro st h1 ⟨i, oa, oc, rfl, hi, H1⟩
  dsimp only
  by_cases hlt : i < n
  · rw [decide_eq_true (show ((i : Int) < (n : Int)) by omega), cond_true]
    obtain ⟨p, hp⟩ : ∃ p, l[i]? = some p := ⟨_, List.getElem?_eq_getElem (by omega)⟩
    have ht : AF.drop (l.take (i + 1)) name = AF.drop (l.take i) name ++ (if p.1 = name then [] else [p]) := by
      unfold AF.drop
      rw [List.take_add_one, hp, List.filter_append]
      congr 1
      by_cases e : p.1 = name
      · rw [if_pos e]; simp [e]
      · rw [if_neg e]; simp [e]
    refine IdxC nameC_len (by decide) (hr h1 H1.drop) hl hp fun b hb hc => CStr (hc 0 _ rfl) ?_
    rw [strEq_dec]
    have wi : IntKind.wrap .i64 ((i : Int) + 1) = ((i + 1 : Nat) : Int) := wrap64_succ (by omega)
    by_cases e : p.1 = name
    · rw [decide_eq_true e, Bool.not_true, cond_false, wi]
      rw [if_pos e, List.append_nil] at ht
      exact ⟨⟨i + 1, oa, oc, by rw [ht], by omega, by rw [ht]; exact H1⟩, by show ((n : Int) - ((i + 1 : Nat) : Int)).toNat < ((n : Int) - (i : Int)).toNat; omega⟩
    · rw [decide_eq_false e, Bool.not_false, cond_true, wi]
      rw [if_neg e] at ht
      refine IdxC nameC_len (by decide) (hr h1 H1.drop) hl hp fun b hb hc => ⟨_, hc 0 _ rfl, _, hc 1 _ rfl, _, _, rfl, ?_⟩
      have hdl : (AF.drop (l.take i) name).length ≤ i := by
        refine Nat.le_trans (List.length_filter_le _ _) ?_
        rw [List.length_take]
        omega
      refine pushEl (f := nameC) (x := p) u118 src118 inf163 nameC_len (nameC_cell p) rfl rfl (by omega) H1 fun a' c' h2 H2 => ?_
      refine ⟨⟨i + 1, a', c', by rw [ht, List.length_append]; rfl, by omega, ?_⟩, by show ((n : Int) - ((i + 1 : Nat) : Int)).toNat < ((n : Int) - (i : Int)).toNat; omega⟩
      rw [ht, List.length_append]
      exact H2
  · rw [decide_eq_false (by omega), cond_false]
    have ei : l.take i = l := List.take_of_length_le (by omega)
    rw [ei] at H1 ⊢
    exact ⟨oa, oc, rfl, H1⟩
end
namespace AF
theorem ins_skip {n : ByteArray} {f : Nat} {l2 : Names} : ∀ {l1 : Names}, (∀ p ∈ l1, ltB p.1 n = true) → ins n f (l1 ++ l2) = l1 ++ ins n f l2
  | [], _ => rfl
  | p :: l, h => by
    have h1 := h p (by simp)
    have h2 : p.1 ≠ n := fun e => by rw [e] at h1; exact strLt_irrefl _ h1
    have h3 : ¬ ltB n p.1 = true := fun e => strLt_irrefl _ (strLt_trans e h1)
    rw [List.cons_append, ins, if_neg h2, if_neg h3, ins_skip fun q hq => h q (by simp [hq])]
    rfl
end AF
section
variable {F : List HProp} {h : Heap} {name : ByteArray}
theorem F140_spec {a : Option Addr} {n c f : Nat} {l : AF.Names} (U : AF.Up l) (hr : ∀ h', sat F h' → RdC h' a (l.flatMap nameC)) (hl : l.length = n) (hm : n ≤ 100000) (H : sat F h) :
    CallsH Tryz.prog 140 [.slice a n c, .string name, .int .i64 (f : Int)] h (NamesOwn (AF.ins name f l) F) := by
  apply F140b_ok
  unfold F140b
  refine ⟨fun st hh => ∃ (i : Nat) (oa : Option Addr) (oc : Nat) (out : AF.Names) (dn : Bool), st = (⟨oa, out.length, oc⟩, dn, (i : Int)) ∧ i ≤ n ∧ out.length ≤ i + 1 ∧ ((dn = false ∧ (∀ p ∈ l.take i, AF.ltB p.1 name = true) ∧ out = l.take i) ∨ (dn = true ∧ out ++ l.drop i = AF.ins name f l ∧ ∀ p ∈ l.drop i, p.1 ≠ name)) ∧
      sat (ownS 194 2 oa out.length oc (out.flatMap nameC) :: F) hh,
    fun st _ => ((n : Int) - st.2.2).toNat, ⟨0, none, 0, [], false, rfl, Nat.zero_le _, Nat.zero_le _, .inl ⟨rfl, by simp, rfl⟩, ownS_nil 194 2 H⟩, ?_⟩
  rintro st h1 ⟨i, oa, oc, out, dn, rfl, hi, hol, hcase, H1⟩
  dsimp only
  by_cases hlt : i < n
  · rw [decide_eq_true (show ((i : Int) < (n : Int)) by omega), cond_true]
    obtain ⟨p, hp⟩ : ∃ p, l[i]? = some p := ⟨_, List.getElem?_eq_getElem (by omega)⟩
    have hdrop : l.drop i = p :: l.drop (i + 1) := by
      have h5 := (List.getElem?_eq_some_iff.1 hp)
      rw [List.drop_eq_getElem_cons h5.1, h5.2]
    have htk : l.take (i + 1) = l.take i ++ [p] := by rw [List.take_add_one, hp]; rfl
    have wi : IntKind.wrap .i64 ((i : Int) + 1) = ((i + 1 : Nat) : Int) := wrap64_succ (by omega)
    have htl : (l.take i).length = i := by rw [List.length_take]; omega
    have hmeas : ((n : Int) - ((i + 1 : Nat) : Int)).toNat < ((n : Int) - (i : Int)).toNat := by omega
    have hU : ∀ q ∈ l.drop (i + 1), AF.ltB p.1 q.1 = true := by
      have := List.Pairwise.sublist (List.drop_sublist i l) U
      rw [hdrop] at this
      exact (List.pairwise_cons.1 this).1
    rcases hcase with ⟨rfl, hall, rfl⟩ | ⟨rfl, hins, hne⟩
    · rw [Bool.not_false, cond_true]
      refine IdxC nameC_len (by decide) (hr h1 H1.drop) hl hp fun b hb hc => CStr (hc 0 _ rfl) ?_
      rw [AF.strLt_eq]
      cases hle : AF.ltB p.1 name with
      | true =>
        rw [Bool.not_true, cond_false]
        refine IdxC nameC_len (by decide) (hr h1 H1.drop) hl hp fun b hb hc => CStr (hc 0 _ rfl) ?_
        have hpn : p.1 ≠ name := fun e => by rw [e] at hle; exact AF.strLt_irrefl _ hle
        rw [strEq_dec, decide_eq_false hpn, Bool.not_false, cond_true, wi]
        refine IdxC nameC_len (by decide) (hr h1 H1.drop) hl hp fun b hb hc => ⟨_, hc 0 _ rfl, _, hc 1 _ rfl, _, _, rfl, ?_⟩
        refine pushEl (f := nameC) (x := p) u118 src118 inf163 nameC_len (nameC_cell p) rfl rfl (by omega) H1 fun a' c' h2 H2 => ?_
        refine ⟨⟨i + 1, a', c', l.take (i + 1), false, by rw [htk, List.length_append]; rfl, by omega, by rw [htk, List.length_append, List.length_singleton]; omega, .inl ⟨rfl, fun q hq => ?_, rfl⟩, by rw [htk, List.length_append]; exact H2⟩, hmeas⟩
        rw [htk] at hq
        rcases List.mem_append.1 hq with hq | hq
        · exact hall q hq
        · rw [List.mem_singleton] at hq
          rw [hq]
          exact hle
      | false =>
        rw [Bool.not_false, cond_true]
        have hge : ∀ q ∈ l.drop (i + 1), q.1 ≠ name := by
          intro q hq e
          have := hU q hq
          rw [e] at this
          rw [this] at hle
          cases hle
        have hin : AF.ins name f l = l.take i ++ ((name, f) :: ((if p.1 = name then [] else [p]) ++ l.drop (i + 1))) := by
          have e1 : AF.ins name f l = AF.ins name f (l.take i ++ l.drop i) := by rw [List.take_append_drop]
          rw [e1, AF.ins_skip hall, hdrop, AF.ins]
          by_cases e : p.1 = name
          · rw [if_pos e, if_pos e]; rfl
          · rw [if_neg e, if_neg e, if_pos (AF.strLt_total e (by rw [hle]; simp))]; rfl
        refine pushEl (f := nameC) (x := (name, f)) u118 src118 inf163 nameC_len (nameC_cell _) rfl rfl (by omega) H1 fun a' c' h2 H2 => ?_
        refine IdxC nameC_len (by decide) (hr h2 H2.drop) hl hp fun b hb hc => CStr (hc 0 _ rfl) ?_
        rw [strEq_dec]
        by_cases e : p.1 = name
        · rw [decide_eq_true e, Bool.not_true, cond_false, wi]
          rw [if_pos e, List.nil_append] at hin
          refine ⟨⟨i + 1, a', c', l.take i ++ [(name, f)], true, by rw [List.length_append]; rfl, by omega, by rw [List.length_append, List.length_singleton]; omega, .inr ⟨rfl, by rw [hin, List.append_assoc]; rfl, hge⟩, by rw [List.length_append]; exact H2⟩, hmeas⟩
        · rw [decide_eq_false e, Bool.not_false, cond_true, wi]
          rw [if_neg e] at hin
          refine IdxC nameC_len (by decide) (hr h2 H2.drop) hl hp fun b hb hc => ⟨_, hc 0 _ rfl, _, hc 1 _ rfl, _, _, rfl, ?_⟩
          refine pushEl (f := nameC) (x := p) u118 src118 inf163 nameC_len (nameC_cell p) rfl (by rw [List.length_append]; rfl) (by omega) H2 fun a2 c2 h3 H3 => ?_
          refine ⟨⟨i + 1, a2, c2, l.take i ++ [(name, f)] ++ [p], true, by rw [List.length_append, List.length_append]; rfl, by omega, by rw [List.length_append, List.length_append, List.length_singleton, List.length_singleton]; omega, .inr ⟨rfl, by rw [hin, List.append_assoc, List.append_assoc]; rfl, hge⟩, by rw [List.length_append, List.length_append]; exact H3⟩, hmeas⟩
    · rw [Bool.not_true, cond_false]
      have hpn : p.1 ≠ name := hne p (by rw [hdrop]; simp)
      refine IdxC nameC_len (by decide) (hr h1 H1.drop) hl hp fun b hb hc => CStr (hc 0 _ rfl) ?_
      rw [strEq_dec, decide_eq_false hpn, Bool.not_false, cond_true, wi]
      refine IdxC nameC_len (by decide) (hr h1 H1.drop) hl hp fun b hb hc => ⟨_, hc 0 _ rfl, _, hc 1 _ rfl, _, _, rfl, ?_⟩
      refine pushEl (f := nameC) (x := p) u118 src118 inf163 nameC_len (nameC_cell p) rfl rfl (by omega) H1 fun a' c' h2 H2 => ?_
      refine ⟨⟨i + 1, a', c', out ++ [p], true, by rw [List.length_append]; rfl, by omega, by rw [List.length_append, List.length_singleton]; omega, .inr ⟨rfl, by rw [← hins, hdrop, List.append_assoc]; rfl, fun q hq => hne q (by rw [hdrop]; simp [hq])⟩, by rw [List.length_append]; exact H2⟩, hmeas⟩
  · rw [decide_eq_false (by omega), cond_false]
    rcases hcase with ⟨rfl, hall, rfl⟩ | ⟨rfl, hins, hne⟩
    · rw [Bool.not_false, cond_true]
      have et : l.take i = l := List.take_of_length_le (by omega)
      rw [et] at hall H1 hol ⊢
      have hin : AF.ins name f l = l ++ [(name, f)] := AF.ins_end hall
      refine pushEl (f := nameC) (x := (name, f)) u118 src118 inf163 nameC_len (nameC_cell _) rfl rfl (by omega) H1 fun a' c' h2 H2 => ?_
      refine ⟨a', c', by rw [hin, List.length_append]; rfl, ?_⟩
      rw [hin, List.length_append]
      exact H2
    · rw [Bool.not_true, cond_false]
      rw [List.drop_eq_nil_of_le (by omega), List.append_nil] at hins
      subst hins
      exact ⟨oa, oc, rfl, H1⟩
/-- An operation among entries. -/
def opFit (l : AF.Names) : AF.Op → Prop
  | .rename a b => (AF.of l a).isSome = true
  | _ => True
theorem F138_spec {a : Option Addr} {n c : Nat} {l : AF.Names} {o : AF.Op} (U : AF.Up l) (hf : opFit l o) (hr : ∀ h', sat F h' → RdC h' a (l.flatMap nameC)) (hl : l.length = n) (hm : n ≤ 100000) (H : sat F h) :
    CallsH Tryz.prog 138 [.slice a n c, .agg (opC o).toArray] h (NamesOwn (AF.does l o) F) := by
  have fin : ∀ {l' : AF.Names} {G : List HProp} {K : Value → Heap → Prop} {v : Value} {h' : Heap}, NamesOwn l' G v h' → (∀ (a' : Option Addr) (c' : Nat), v = .slice a' l'.length c' → sat (ownS 194 2 a' l'.length c' (l'.flatMap nameC) :: G) h' → K v h') → K v h' := by
    rintro l' G K v h' ⟨a', c', hv, H'⟩ hK
    exact hK a' c' hv H'
  cases o with
  | create nm f =>
    refine F138b_ok (o0 := 1) (o1 := nm) (o2 := .empty) (o3 := (f : Int)) ?_
    unfold F138b
    refine Al_sat H fun b0 h1 H1 => ?_
    refine LdInt (x := (1 : Int)) H1 rfl ?_
    rw [show ((1 : Int) == 1) = true from rfl, cond_true]
    refine LdStr H1 rfl ?_
    refine LdInt (x := (f : Int)) H1 rfl ?_
    refine (F140_spec U (fun h' hh => hr h' hh.drop) hl hm H1).mono ?_
    rintro v h2 ⟨a', c', rfl, H2⟩
    rw [DSl_slice]
    exact ⟨a', c', rfl, (H2.mv 1).drop⟩
  | rename x y =>
    refine F138b_ok (o0 := 2) (o1 := x) (o2 := y) (o3 := 0) ?_
    unfold F138b
    refine Al_sat H fun b0 h1 H1 => ?_
    refine LdInt (x := (2 : Int)) H1 rfl ?_
    rw [show ((2 : Int) == 1) = false from rfl, cond_false, show ((2 : Int) == 2) = true from rfl, cond_true]
    refine LdStr H1 rfl ?_
    refine (F130_spec (hr _ H1.drop) hl (by omega)).mono ?_
    rintro v h2 ⟨rfl, rfl⟩
    rw [DI_int]
    refine LdStr H1 rfl ?_
    refine LdStr H1 rfl ?_
    refine (F165_spec (fun h' hh => hr h' hh.drop) hl hm H1).mono ?_
    rintro v h3 ⟨a', c', rfl, H3⟩
    rw [DSl_slice]
    refine ⟨rfl, LdStr (H3.mv 1) rfl rfl, rfl, ?_⟩
    have hdl : (AF.drop l x).length ≤ 100000 := by
      have := List.length_filter_le (fun p : ByteArray × Nat => !decide (p.1 = x)) l
      unfold AF.drop
      omega
    cases ho : AF.of l x with
    | none =>
      have : (AF.of l x).isSome = true := hf
      rw [ho] at this
      cases this
    | some k =>
      refine (F140_spec (f := k) (AF.Up.drop U x) (fun h' hh => ownS_read hh) rfl hdl H3).mono ?_
      rintro v h4 ⟨a2, c2, rfl, H4⟩
      rw [DSl_slice]
      have e : AF.does l (.rename x y) = AF.ins y k (AF.drop l x) := by
        show (match AF.of l x with
          | some f => AF.ins y f (AF.drop l x)
          | none => AF.drop l x) = _
        rw [ho]
      rw [e]
      exact ⟨a2, c2, rfl, H4.ordT 3 [0]⟩
  | remove x =>
    refine F138b_ok (o0 := 3) (o1 := x) (o2 := .empty) (o3 := 0) ?_
    unfold F138b
    refine Al_sat H fun b0 h1 H1 => ?_
    refine LdInt (x := (3 : Int)) H1 rfl ?_
    rw [show ((3 : Int) == 1) = false from rfl, cond_false, show ((3 : Int) == 2) = false from rfl, cond_false]
    refine LdStr H1 rfl ?_
    refine (F165_spec (fun h' hh => hr h' hh.drop) hl hm H1).mono ?_
    rintro v h3 ⟨a', c', rfl, H3⟩
    rw [DSl_slice]
    exact ⟨a', c', rfl, (H3.mv 1).drop⟩
end

end Go.Proofs.YticjjdhaikbdaaaGreat

namespace Go.Proofs.YticjjdhaikbdaaaGreat
open Go Go.RowKit
set_option linter.unusedVariables false
set_option linter.unusedSimpArgs false

theorem u119 : Tryz.prog.underlying 125 = some (.slice 199) := by kernel_rfl
theorem src119 : srcTy Tryz.prog 125 = true := by kernel_rfl
theorem inf154 : infoSz Tryz.prog 199 4 48 = true := by kernel_rfl
theorem cell_pt {F : List HProp} {h : Heap} {b i : Nat} {c : Array Value} {e : TypeId} {fr : Nat × Nat} {v : Value} (H : sat (pt b (.cells c e fr) :: F) h) (hv : c[i]? = some v) : cellAt h ((Addr.mk b 0 none).add i) = some v := by
  rw [addr_add, Nat.zero_add, cellAt_of H.get]
  exact hv
theorem cellC {α : Type} {f : α → List Value} {sz i j : Nat} {h : Heap} {b : Addr} {xs : List α} {x : α} {v : Value} (hf : ∀ x, (f x).length = sz) (H : RdC h (some b) (xs.flatMap f)) (hi : xs[i]? = some x) (hv : (f x)[j]? = some v) : cellAt h ((b.add (i * sz)).add j) = some v := by
  have := (List.getElem?_eq_some_iff.1 hv).1
  rw [hf] at this
  rw [addr_add_add]
  refine H _ _ ?_
  rw [flatC_get hf hi this, hv]
theorem opC_cell (o : AF.Op) : ∀ u ∈ opC o, u.oneCell' = true := by
  intro u hu
  cases o <;> (simp [opC] at hu; rcases hu with rfl | rfl | rfl | rfl <;> rfl)
theorem opsC_cell (l : List AF.Op) : ∀ u ∈ l.flatMap opC, u.oneCell' = true := by
  intro u hu
  obtain ⟨o, _, ho⟩ := List.mem_flatMap.1 hu
  exact opC_cell o u ho
theorem many_in2 {α β : Type} {E : α → β → HProp} {xs : List α} {ys : List β} {F : List HProp} {h : Heap} {i : Nat} {x : α} {y : β} (hi : i < xs.length) (hj : i < ys.length) (H : sat (E x y :: butP E xs ys i :: F) h) : sat (Many (List.zipWith E (xs.set i x) (ys.set i y)) :: F) h := by
  have e : (List.zipWith E xs ys).set i (E x y) = List.zipWith E (xs.set i x) (ys.set i y) := by
    apply List.ext_getElem?
    intro j
    rw [List.getElem?_set]
    simp only [List.getElem?_zipWith, List.getElem?_set]
    by_cases hij : i = j
    · subst hij
      rw [if_pos rfl, if_pos rfl, if_pos rfl, if_pos hi, if_pos hj, if_pos (by rw [List.length_zipWith]; omega)]
    · rw [if_neg hij, if_neg hij, if_neg hij]
  have H2 : sat (E x y :: ((List.zipWith E xs ys).eraseIdx i ++ F)) h := (H.mv 1).open |> fun hh => by
    have h3 : sat ((List.zipWith E xs ys).eraseIdx i ++ E x y :: F) h := hh
    have h4 := (h3.shut.mv 1)
    have h5 : sat (E x y :: Many ((List.zipWith E xs ys).eraseIdx i) :: F) h := h4
    obtain ⟨r, hr, hs⟩ := h5
    exact ⟨r, sep_mono (fun _ h => h) (fun _ h => star_append.2 h) hr, hs⟩
  have H3 := H2.unfocus (by rw [List.length_zipWith]; omega)
  rw [e] at H3
  exact H3.shut
theorem zip_set {α β : Type} (xs : List α) (ys : List β) (i : Nat) (x : α) (y : β) : (xs.zip ys).set i (x, y) = (xs.set i x).zip (ys.set i y) := by
  apply List.ext_getElem?
  intro j
  rw [List.getElem?_set]
  simp only [List.zip_eq_zipWith, List.getElem?_zipWith, List.getElem?_set]
  by_cases hij : i = j
  · subst hij
    rw [if_pos rfl, if_pos rfl, if_pos rfl]
    by_cases h1 : i < xs.length
    · by_cases h2 : i < ys.length
      · rw [if_pos h1, if_pos h2, if_pos (by rw [List.length_zipWith]; omega)]
      · rw [if_pos h1, if_neg h2, if_neg (by rw [List.length_zipWith]; omega)]
    · rw [if_neg h1, if_neg (by rw [List.length_zipWith]; omega)]
  · rw [if_neg hij, if_neg hij, if_neg hij]
abbrev refO (m : Nat) (A : AF.FS) (q : RefQ) (F : List HProp) (h : Heap) : Prop := sat (pt m (.cells (refC A q) 97 (0, 0)) :: filesR A q :: dirsR A q :: listsR A q :: F) h
section
variable {m i : Nat} {A : AF.FS} {q : RefQ} {d d' : AF.Dir} {x x' : RDir} {F : List HProp} {h : Heap}
theorem lists_swap {G : HProp} (hd : A.dirs[i]? = some d) (hx : q.qs[i]? = some x) (hP : ∀ F', sat (dirRP d x :: G :: F') h → sat (dirRP d' x' :: F') h) (H : sat (listsR A q :: G :: F) h) :
    sat (Many (List.zipWith dirRP (A.dirs.set i d') (q.qs.set i x')) :: F) h := by
  have H2 := many_out H hd hx
  -- dirRP d x, but, G, F
  have H3 := hP _ (H2.ordT 3 [0, 2, 1])
  exact many_in2 (List.getElem?_eq_some_iff.1 hd).1 (List.getElem?_eq_some_iff.1 hx).1 H3
theorem rdir_set {j : Nat} {v : Value} {K : Heap → Prop} (hq : q.qs.length = A.dirs.length) (hd : A.dirs[i]? = some d) (hx : q.qs[i]? = some x) (hj : j < 4) (hc : (dirRC (d, x)).set j v = dirRC (d', x'))
    (H : sat (pt m (.cells (refC A q) 97 (0, 0)) :: filesR A q :: dirsR A q :: Many (List.zipWith dirRP (A.dirs.set i d') (q.qs.set i x')) :: F) h) (hK : ∀ h', refO m { A with dirs := A.dirs.set i d' } { q with qs := q.qs.set i x' } F h' → K h') :
    IdxA q.da A.dirs.length (i : Int) 4 fun a => StC h ((a.add j).add 0) v K := by
  have hz : (A.dirs.zip q.qs)[i]? = some (d, x) := by rw [List.zip_eq_zipWith, List.getElem?_zipWith, hd, hx]
  refine IdxC dirRC_len (by decide) (ownS_read (H.mv 2)) (zip_len hq) hz fun b hb _ => ?_
  have H2 := H.mv 2
  unfold dirsR at H2
  rw [hb] at H2
  refine ownC_set (d', x') dirRC_len H2 hz hj hc fun h' H' => hK h' ?_
  rw [zip_set, ← hb] at H'
  have H3 := H'.ordT 3 [1, 2, 0]
  unfold refO filesR dirsR listsR refC at *
  dsimp only at *
  rw [List.length_set]
  exact H3
end

end Go.Proofs.YticjjdhaikbdaaaGreat

namespace Go.Proofs.YticjjdhaikbdaaaGreat
open Go Go.RowKit
set_option linter.unusedVariables false
set_option linter.unusedSimpArgs false

theorem opC_ex (o : AF.Op) : ∃ (o0 : Int) (o1 o2 : ByteArray) (o3 : Int), opC o = [.int .i64 o0, .string o1, .string o2, .int .i64 o3] := by cases o <;> exact ⟨_, _, _, _, rfl⟩
section
variable {m i : Nat} {A : AF.FS} {q : RefQ} {d d' : AF.Dir} {x x' : RDir} {F : List HProp} {h : Heap}
/-- Another list of entries, or of operations, for a directory. -/
theorem lists_now {l' : AF.Names} {a' : Option Addr} {c' : Nat} (hd : A.dirs[i]? = some d) (hx : q.qs[i]? = some x) (H : sat (listsR A q :: roS a' (l'.flatMap nameC) :: F) h) :
    sat (Many (List.zipWith dirRP (A.dirs.set i { d with now := l' }) (q.qs.set i { x with na := a', nc := c' })) :: F) h := by
  refine lists_swap hd hx (fun F' H' => ?_) H
  have H2 := H'.open
  exact sat.shut (m := [roS a' (l'.flatMap nameC), roS x.ba (d.base.flatMap nameC), roS x.pa (d.pend.flatMap opC)]) (H2.ordT 4 [3, 1, 2])
theorem lists_pend {l' : List AF.Op} {a' : Option Addr} {c' : Nat} (hd : A.dirs[i]? = some d) (hx : q.qs[i]? = some x) (H : sat (listsR A q :: roS a' (l'.flatMap opC) :: F) h) :
    sat (Many (List.zipWith dirRP (A.dirs.set i { d with pend := l' }) (q.qs.set i { x with pa := a', pc := c' })) :: F) h := by
  refine lists_swap hd hx (fun F' H' => ?_) H
  have H2 := H'.open
  exact sat.shut (m := [roS x.na (d.now.flatMap nameC), roS x.ba (d.base.flatMap nameC), roS a' (l'.flatMap opC)]) (H2.ordT 4 [0, 1, 3])
theorem set_get {α : Type} {l : List α} {i : Nat} {x y : α} (h : l[i]? = some x) : (l.set i y)[i]? = some y := by
  rw [List.getElem?_set, if_pos rfl, if_pos (List.getElem?_eq_some_iff.1 h).1]
theorem step_good {g : AF.FS → AF.FS} (h : A.fuse ≠ some 0) : A.step g = (g A.stepOn, 0) := by
  unfold AF.FS.step
  rw [if_neg h]
theorem step_bad {g : AF.FS → AF.FS} (h : A.fuse = some 0) : A.step g = ({ A with off := true }, 60) := by
  unfold AF.FS.step
  rw [if_pos h]
theorem F129_spec {o : AF.Op} {o0 o3 : Int} {o1 o2 : ByteArray} (ho : opC o = [.int .i64 o0, .string o1, .string o2, .int .i64 o3]) (W : A.WF) (hs : A.steps < 1099511627776) (hd : A.dirs[i]? = some d) (hf : opFit d.now o) (H : sat (refP m A :: F) h) :
    CallsH Tryz.prog 129 [ptrV m, .int .i64 (i : Int), .agg #[.int .i64 o0, .string o1, .string o2, .int .i64 o3]] h fun v h' => v = .int .i64 ((A.step fun g => g.did i o).2 : Int) ∧ sat (refP m (A.step fun g => g.did i o).1 :: F) h' := by
  apply F129b_ok
  unfold F129b
  refine Al_sat H fun b0 h1 H1 => ?_
  refine (F131_spec W hs (H1.mv 1)).mono ?_
  rintro v h2 (⟨hfu, rfl, H2⟩ | ⟨hfu, rfl, H2⟩)
  · rw [DI_int, show ((60 : Int) == 0) = false from rfl, cond_false, step_bad hfu]
    exact ⟨rfl, (H2.mv 1).drop⟩
  rw [DI_int, show ((0 : Int) == 0) = true from rfl, cond_true, step_good hfu]
  have hWd := W.each d (List.mem_of_getElem? hd)
  have hnl := hWd.ok.few
  have hpl := hWd.pend
  obtain ⟨q, hq, H3⟩ := refP_open H2
  have hd2 : A.stepOn.dirs[i]? = some d := hd
  have hdl : A.stepOn.dirs.length = A.dirs.length := rfl
  obtain ⟨x, hx, hz, hrn, _, _⟩ := rdir_read hq hd2 (H3.mv 3 |>.mv 3)
  simp only [NN'_some']
  refine LdSl (a := q.da) (l := A.dirs.length) (m := q.dc) H3 rfl ?_
  refine LdSl (a := q.da) (l := A.dirs.length) (m := q.dc) H3 rfl ?_
  refine IdxC dirRC_len (by decide) (ownS_read (H3.mv 2)) (zip_len hq) hz fun b hb hc => CSl (hc 1 _ rfl) ?_
  have B0 := H3.mv 4
  refine ⟨_, cell_pt B0 rfl, _, cell_pt B0 rfl, _, cell_pt B0 rfl, _, cell_pt B0 rfl, _, _, _, _, rfl, ?_⟩
  have e118 : Value.agg #[.int .i64 o0, .string o1, .string o2, .int .i64 o3] = .agg (opC o).toArray := by rw [ho]
  rw [e118]
  refine (F138_spec hWd.ok.up hf (fun h' hh => by
    obtain ⟨x', hx', _, hr, _, _⟩ := rdir_read hq hd2 (hh.mv 3 |>.mv 3)
    rw [hx] at hx'
    cases hx'
    exact hr) rfl (by omega) H3).mono ?_
  rintro v h3 ⟨na, nc, rfl, H4⟩
  rw [DSl_slice]
  -- own, pt m, files, dirs, lists, b0, F
  refine ⟨rfl, rfl, rfl, LdSl (a := q.da) (l := A.dirs.length) (m := q.dc) (H4.mv 1) rfl rfl, rfl, ?_⟩
  have H5 := (roS_of H4).ordT 6 [4, 0, 1, 2, 3, 5]
  have H6 := lists_now (A := A.stepOn) (c' := nc) hd2 hx H5
  -- lists', pt m, files, dirs, b0, F
  refine rdir_set (A := A.stepOn) (m := m) (d' := { d with now := AF.does d.now o }) (x' := { x with na := na, nc := nc }) hq hd2 hx (by decide) rfl (H6.ordT 4 [1, 2, 3, 0]) fun h4 H7 => ?_
  have hd3 := set_get (y := { d with now := AF.does d.now o }) hd2
  have hx3 := set_get (y := { x with na := na, nc := nc }) hx
  have hq3 : (q.qs.set i { x with na := na, nc := nc }).length = (A.stepOn.dirs.set i { d with now := AF.does d.now o }).length := by rw [List.length_set, List.length_set, hq]
  generalize hA3 : ({ A.stepOn with dirs := A.stepOn.dirs.set i { d with now := AF.does d.now o } } : AF.FS) = A3 at H7
  generalize hQ3 : ({ q with qs := q.qs.set i { x with na := na, nc := nc } } : RefQ) = q3 at H7
  have hd4 : A3.dirs[i]? = some { d with now := AF.does d.now o } := by rw [← hA3]; exact hd3
  have hx4 : q3.qs[i]? = some { x with na := na, nc := nc } := by rw [← hQ3]; exact hx3
  have hq4 : q3.qs.length = A3.dirs.length := by rw [← hA3, ← hQ3]; exact hq3
  have hz4 : (A3.dirs.zip q3.qs)[i]? = some ({ d with now := AF.does d.now o }, { x with na := na, nc := nc }) := by rw [List.zip_eq_zipWith, List.getElem?_zipWith, hd4, hx4]
  have hda : q3.da = q.da := by rw [← hQ3]
  have hB : ∀ {h' : Heap} {G : List HProp}, refO m A3 q3 G h' → Ld h' ((⟨m, 0, none⟩ : Addr).add 5) fun v => DSl v fun a l c => SameV (some (.slice q3.da A3.dirs.length q3.dc)) (.slice a l c) := fun H' => LdSl (a := q3.da) (l := A3.dirs.length) (m := q3.dc) H' rfl rfl
  refine LdSl (a := q3.da) (l := A3.dirs.length) (m := q3.dc) H7 rfl ?_
  refine LdSl (a := q3.da) (l := A3.dirs.length) (m := q3.dc) H7 rfl ?_
  refine IdxC dirRC_len (by decide) (ownS_read (H7.mv 2)) (zip_len hq4) hz4 fun b hb hc => CSl (hc 3 _ rfl) ?_
  have hC : ∀ {h' : Heap} {G : List HProp}, refO m A3 q3 G h' → Ld h' ((b.add (i * 4)).add 3) fun v => DSl v fun a l c => SameV (some (.slice x.pa d.pend.length x.pc)) (.slice a l c) := fun H' => by
    have hr := ownS_read (H'.mv 2)
    rw [hb] at hr
    exact CSl (cellC dirRC_len hr hz4 (j := 3) rfl) rfl
  have hI : ∀ {h' : Heap} {G : List HProp}, refO m A3 q3 G h' → IdxA q3.da A3.dirs.length (i : Int) 4 fun a10 => SameV (some (.pointer (some (b.add (i * 4))))) (.pointer (some a10)) := fun H' =>
    IdxC dirRC_len (by decide) (ownS_read (H'.mv 2)) (zip_len hq4) hz4 fun b' hb' _ => by
      rw [hb] at hb'
      cases hb'
      rfl
  have hRp : ∀ {h' : Heap} {G : List HProp}, refO m A3 q3 G h' → RdC h' x.pa (d.pend.flatMap opC) := fun H' => by
    obtain ⟨x', hx', _, _, _, hr⟩ := rdir_read hq4 hd4 (H'.mv 3 |>.mv 3)
    rw [hx4] at hx'
    cases hx'
    exact hr
  have B1 := H7.mv 4
  refine ⟨_, cell_pt B1 rfl, _, cell_pt B1 rfl, _, cell_pt B1 rfl, _, cell_pt B1 rfl, _, _, _, _, rfl, ?_⟩
  -- the ends
  have tail : ∀ (a' : Option Addr) (c' : Nat) (h' : Heap) (G : List HProp), sat (ownS 199 4 a' (d.pend ++ [o]).length c' ((d.pend ++ [o]).flatMap opC) :: pt m (.cells (refC A3 q3) 97 (0, 0)) :: filesR A3 q3 :: dirsR A3 q3 :: listsR A3 q3 :: G) h' → (∀ h'', sat (refP m (A.stepOn.did i o) :: G) h'' → sat (refP m (A.stepOn.did i o) :: F) h'') →
      IdxA q3.da A3.dirs.length (i : Int) 4 fun a16 => StC h' ((a16.add 3).add 0) (.slice a' (d.pend ++ [o]).length c') fun h_10 =>
        (fun v h' => v = Value.int .i64 ((A.stepOn.did i o, 0).2 : Int) ∧ sat (refP m (A.stepOn.did i o, 0).1 :: F) h') (.int .i64 0) h_10 := by
    intro a' c' h' G HH hG
    have K1 := (roS_of HH).ordT 5 [4, 0, 1, 2, 3]
    have K2 := lists_pend (c' := c') hd4 hx4 K1
    refine rdir_set (A := A3) (q := q3) (m := m) (F := G) (d' := (⟨d.name, AF.does d.now o, d.base, d.pend ++ [o]⟩ : AF.Dir)) (x' := (⟨na, nc, x.ba, x.bc, a', c'⟩ : RDir)) hq4 hd4 hx4 (by decide) rfl (K2.ordT 4 [1, 2, 3, 0]) fun h5 K3 => ?_
    refine ⟨rfl, hG h5 ?_⟩
    have eA : ({ A3 with dirs := A3.dirs.set i (⟨d.name, AF.does d.now o, d.base, d.pend ++ [o]⟩ : AF.Dir) } : AF.FS) = A.stepOn.did i o := by
      rw [← hA3]
      unfold AF.FS.did AF.FS.setDir
      dsimp only
      rw [List.set_set, modify_set (fun d => d.did o) hd2]
      rfl
    unfold refO at K3
    rw [eA] at K3
    refine refP_shut (q := { q3 with qs := q3.qs.set i (⟨na, nc, x.ba, x.bc, a', c'⟩ : RDir) }) ?_ K3
    rw [← eA]
    show (q3.qs.set i _).length = (A3.dirs.set i _).length
    rw [List.length_set, List.length_set, hq4]
  have app1 : ∀ {b1 : Nat} {h' : Heap} {G : List HProp} {K : Value → Heap → Prop}, sat (pt b1 (.cells #[] 199 (0, 0)) :: pt m (.cells (refC A3 q3) 97 (0, 0)) :: filesR A3 q3 :: dirsR A3 q3 :: listsR A3 q3 :: G) h' →
      (∀ a' c' h'', sat (ownS 199 4 a' d.pend.length c' (d.pend.flatMap opC) :: pt m (.cells (refC A3 q3) 97 (0, 0)) :: filesR A3 q3 :: dirsR A3 q3 :: listsR A3 q3 :: G) h'' → K (.slice a' d.pend.length c') h'') →
      RunH Tryz.prog (Builtin.append_ #[125, 125] 125 #[.slice (some (Addr.mk b1 0 none)) 0 0, .slice x.pa d.pend.length x.pc]) h' K := by
    intro b1 h' G K HH hK
    have K1 : sat (ownS 199 4 (some ⟨b1, 0, none⟩) 0 0 [] :: pt m (.cells (refC A3 q3) 97 (0, 0)) :: filesR A3 q3 :: dirsR A3 q3 :: listsR A3 q3 :: G) h' := ownS_mk HH (nofz_zero _) (Nat.le_refl _) (Nat.zero_le _) rfl rfl
    refine appendN u119 src119 inf154 K1 (n := d.pend.length) (srcOf_slice (hRp K1.drop) (flatC_length opC_len _)) (opsC_cell _) (by omega) fun a' c' h'' _ K2 => ?_
    rw [Nat.zero_add] at K2 ⊢
    exact hK a' c' h'' K2
  have app2 : ∀ {b2 : Nat} {a : Option Addr} {c : Nat} {h' : Heap} {G : List HProp} {K : Value → Heap → Prop}, sat (pt b2 (.cells #[.int .i64 o0, .string o1, .string o2, .int .i64 o3] 199 (0, 0)) :: ownS 199 4 a d.pend.length c (d.pend.flatMap opC) :: G) h' →
      (∀ a' c' h'', sat (ownS 199 4 a' (d.pend ++ [o]).length c' ((d.pend ++ [o]).flatMap opC) :: pt b2 (.cells #[.int .i64 o0, .string o1, .string o2, .int .i64 o3] 199 (0, 0)) :: G) h'' → K (.slice a' (d.pend ++ [o]).length c') h'') →
      RunH Tryz.prog (Builtin.append_ #[125, 125] 125 #[.slice a d.pend.length c, .slice (some (Addr.mk b2 0 none)) 1 1]) h' K := by
    intro b2 a c h' G K HH hK
    refine appendN u119 src119 inf154 (HH.mv 1) (n := 1) (ys := opC o) (srcOf_slice (RdCf HH (by rw [ho])) (by rw [opC_len])) (opC_cell o) (by omega) fun a' c' h'' _ K2 => ?_
    have e1 : d.pend.flatMap opC ++ opC o = (d.pend ++ [o]).flatMap opC := by rw [List.flatMap_append, List.flatMap_cons, List.flatMap_nil, List.append_nil]
    have e2 : d.pend.length + 1 = (d.pend ++ [o]).length := by rw [List.length_append, List.length_singleton]
    rw [e1, e2] at K2
    rw [e2]
    exact hK a' c' h'' K2
  refine ⟨?_, ?_⟩
  · -- the empty list first
    refine Al_sat H7 fun b1 h5 H8 => ?_
    have R8 := H8.drop
    refine ⟨rfl, rfl, rfl, hB R8, rfl, rfl, rfl, rfl, hB R8, rfl, hI R8, rfl, hC R8, ⟨_, cell_pt (R8.mv 4) rfl, _, cell_pt (R8.mv 4) rfl, _, cell_pt (R8.mv 4) rfl, _, cell_pt (R8.mv 4) rfl, _, _, _, _, rfl, rfl⟩, ?_, ?_⟩
    · refine app1 H8 fun a' c' h6 H9 => ?_
      rw [DSl_slice]
      have R9 := H9.drop
      refine ⟨rfl, rfl, rfl, hB R9, rfl, ⟨_, cell_pt (R9.mv 4) rfl, _, cell_pt (R9.mv 4) rfl, _, cell_pt (R9.mv 4) rfl, _, cell_pt (R9.mv 4) rfl, _, _, _, _, rfl, rfl⟩, ?_⟩
      refine Al_sat H9 fun b2 h7 H10 => ?_
      have R10 := H10.drop.drop
      refine ⟨rfl, rfl, rfl, hB R10, rfl, rfl, rfl, rfl, hB R10, rfl, hI R10, rfl, hC R10, ?_⟩
      refine app2 H10 fun a2 c2 h8 H11 => ?_
      rw [DSl_slice]
      have R11 := H11.drop.drop
      refine ⟨rfl, rfl, rfl, hB R11, rfl, ?_⟩
      exact tail a2 c2 h8 (pt b0 (.cells #[.int .i64 o0, .string o1, .string o2, .int .i64 o3] 199 (0, 0)) :: F) (H11.ordT 7 [0, 2, 3, 4, 5, 6]) fun h'' K => (K.mv 1).drop
    · refine Al_sat H8 fun b3 h6 H9 => ?_
      have R9 := H9.drop.drop
      refine ⟨rfl, rfl, rfl, hB R9, rfl, rfl, rfl, rfl, hB R9, rfl, hI R9, rfl, hC R9, ?_⟩
      refine app1 (G := pt b0 (.cells #[.int .i64 o0, .string o1, .string o2, .int .i64 o3] 199 (0, 0)) :: pt b3 (.cells #[.int .i64 o0, .string o1, .string o2, .int .i64 o3] 199 (0, 0)) :: F) (H9.ordT 7 [1, 2, 3, 4, 5, 6, 0]) fun a' c' h7 H10 => ?_
      rw [DSl_slice]
      have R10 := H10.drop
      refine ⟨rfl, rfl, rfl, hB R10, rfl, ⟨_, cell_pt (R10.mv 4) rfl, _, cell_pt (R10.mv 4) rfl, _, cell_pt (R10.mv 4) rfl, _, cell_pt (R10.mv 4) rfl, _, _, _, _, rfl, rfl⟩, ?_⟩
      refine app2 (H10.ordT 7 [6, 0, 1, 2, 3, 4, 5]) fun a2 c2 h8 H11 => ?_
      rw [DSl_slice]
      have R11 := H11.drop.drop
      refine ⟨rfl, rfl, rfl, hB R11, rfl, ?_⟩
      exact tail a2 c2 h8 (pt b0 (.cells #[.int .i64 o0, .string o1, .string o2, .int .i64 o3] 199 (0, 0)) :: F) (H11.ordT 7 [0, 2, 3, 4, 5, 6]) fun h'' K => (K.mv 1).drop
  · refine Al_sat H7 fun b4 h5 H8 => ?_
    have R8 := H8.drop
    refine ⟨rfl, rfl, rfl, hB R8, rfl, rfl, rfl, rfl, hB R8, rfl, hI R8, rfl, hC R8, ?_⟩
    refine Al_sat H8 fun b5 h6 H9 => ?_
    have R9 := H9.drop.drop
    refine ⟨rfl, rfl, rfl, hB R9, rfl, rfl, rfl, rfl, hB R9, rfl, hI R9, rfl, hC R9, ⟨_, cell_pt (R9.mv 4) rfl, _, cell_pt (R9.mv 4) rfl, _, cell_pt (R9.mv 4) rfl, _, cell_pt (R9.mv 4) rfl, _, _, _, _, rfl, rfl⟩, ?_⟩
    refine app1 (G := pt b0 (.cells #[.int .i64 o0, .string o1, .string o2, .int .i64 o3] 199 (0, 0)) :: pt b4 (.cells #[.int .i64 o0, .string o1, .string o2, .int .i64 o3] 199 (0, 0)) :: F) (H9.ordT 7 [0, 2, 3, 4, 5, 6, 1]) fun a' c' h7 H10 => ?_
    rw [DSl_slice]
    have R10 := H10.drop
    refine ⟨rfl, rfl, rfl, hB R10, rfl, ⟨_, cell_pt (R10.mv 4) rfl, _, cell_pt (R10.mv 4) rfl, _, cell_pt (R10.mv 4) rfl, _, cell_pt (R10.mv 4) rfl, _, _, _, _, rfl, rfl⟩, ?_⟩
    refine app2 (H10.ordT 7 [6, 0, 1, 2, 3, 4, 5]) fun a2 c2 h8 H11 => ?_
    rw [DSl_slice]
    have R11 := H11.drop.drop
    refine ⟨rfl, rfl, rfl, hB R11, rfl, ?_⟩
    exact tail a2 c2 h8 (pt b0 (.cells #[.int .i64 o0, .string o1, .string o2, .int .i64 o3] 199 (0, 0)) :: F) (H11.ordT 7 [0, 2, 3, 4, 5, 6]) fun h'' K => (K.mv 1).drop
end

end Go.Proofs.YticjjdhaikbdaaaGreat

namespace Go.Proofs.YticjjdhaikbdaaaGreat
open Go Go.RowKit
set_option linter.unusedVariables false
set_option linter.unusedSimpArgs false

theorem ofN_append (a b : List Nat) : ofN (a ++ b) = ofN a ++ ofN b := by
  unfold ofN
  rw [List.map_append]
  apply ByteArray.ext
  rw [ByteArray.data_append]
  simp
theorem u107 : Tryz.prog.underlying 94 = some (.slice 202) := by kernel_rfl
theorem src107 : srcTy Tryz.prog 94 = true := by kernel_rfl
theorem inf156 : infoSz Tryz.prog 202 2 24 = true := by kernel_rfl
theorem fileRC_cell (x : AF.File) : ∀ u ∈ fileRC x, u.oneCell' = true := by
  intro u hu
  simp [fileRC] at hu
  rcases hu with rfl | rfl <;> rfl
theorem sum_take_le (l : List Nat) (i : Nat) : (l.take i).sum ≤ l.sum := by
  have : l.sum = (l.take i).sum + (l.drop i).sum := by rw [← List.sum_append, List.take_append_drop]
  omega
section
variable {m i : Nat} {A : AF.FS} {q : RefQ} {d d' : AF.Dir} {x x' : RDir} {F : List HProp} {h : Heap} {dir name : ByteArray}
theorem rfile_set {j k : Nat} {v : Value} {y y' : AF.File} {K : Heap → Prop} (hy : A.files[k]? = some y) (hj : j < 2) (hc : (fileRC y).set j v = fileRC y') (H : refO m A q F h) (hK : ∀ h', refO m { A with files := A.files.set k y' } q F h' → K h') :
    IdxA q.fa A.files.length (k : Int) 2 fun a => StC h ((a.add j).add 0) v K := by
  refine IdxC fileRC_len (by decide) (ownS_read (H.mv 1)) rfl hy fun b hb _ => ?_
  have H2 := H.mv 1
  unfold filesR at H2
  rw [hb] at H2
  refine ownC_set y' fileRC_len H2 hy hj hc fun h' H' => hK h' ?_
  rw [← hb] at H'
  have H3 := H'.ordT 2 [1, 0]
  unfold refO filesR dirsR listsR refC at *
  dsimp only at *
  rw [List.length_set]
  exact H3
theorem rfile_read {k : Nat} {y : AF.File} {K : Addr → Prop} (hy : A.files[k]? = some y) (H : refO m A q F h) (hK : ∀ b, cellAt h (b.add 0) = some (.string (ofN y.b)) → cellAt h (b.add 1) = some (.int .i64 (y.safe : Int)) → K b) : IdxA q.fa A.files.length (k : Int) 2 K :=
  IdxC fileRC_len (by decide) (ownS_read (H.mv 1)) rfl hy fun b hb hc => hK _ (hc 0 _ rfl) (hc 1 _ rfl)
theorem dirx_read {K : Addr → Prop} (hq : q.qs.length = A.dirs.length) (hd : A.dirs[i]? = some d) (hx : q.qs[i]? = some x) (H : refO m A q F h)
    (hK : ∀ b, (∀ j v, (dirRC (d, x))[j]? = some v → cellAt h (b.add j) = some v) → K b) : IdxA q.da A.dirs.length (i : Int) 4 K :=
  IdxC dirRC_len (by decide) (ownS_read (H.mv 2)) (zip_len hq) (by rw [List.zip_eq_zipWith, List.getElem?_zipWith, hd, hx]) fun b hb hc => hK _ hc
theorem lists_read (hq : q.qs.length = A.dirs.length) (hd : A.dirs[i]? = some d) (hx : q.qs[i]? = some x) (H : refO m A q F h) : RdC h x.na (d.now.flatMap nameC) ∧ RdC h x.ba (d.base.flatMap nameC) ∧ RdC h x.pa (d.pend.flatMap opC) := by
  obtain ⟨x', hx', _, h1⟩ := rdir_read hq hd (H.mv 3 |>.mv 3)
  rw [hx] at hx'
  cases hx'
  exact h1
theorem F79_spec {n : Int} (H : sat (refP m A :: F) h) : CallsH Tryz.prog 79 [ptrV m, .int .i64 n] h fun v h' => v = .int .i64 ((A.setRoom n).2 : Int) ∧ sat (refP m (A.setRoom n).1 :: F) h' := by
  apply F79b_ok
  unfold F79b AF.FS.setRoom
  by_cases h1 : n < 0
  · rw [decide_eq_true h1, cond_true, if_pos (.inl h1)]
    exact ⟨rfl, H⟩
  · rw [decide_eq_false h1, cond_false]
    by_cases h2 : 1073741824 < n
    · rw [decide_eq_true (show n > 1073741824 from h2), cond_true, if_pos (.inr h2)]
      exact ⟨rfl, H⟩
    · rw [decide_eq_false (show ¬ n > 1073741824 from h2), cond_false, if_neg (by omega)]
      obtain ⟨q, hq, H1⟩ := refP_open H
      rw [NN'_some', addr_add0]
      refine StCC (c' := refC { A with room := n.toNat } q) H1 (by show 0 < 6; decide) (by show _ = (#[.int .i64 ((n.toNat : Nat) : Int), .int .i64 (A.steps : Int), .int .i64 (fuseI A.fuse), .bool A.off, .slice q.fa A.files.length q.fc, .slice q.da A.dirs.length q.dc] : Array Value); rw [Int.toNat_of_nonneg (by omega)]; rfl) fun h2 H2 => ?_
      exact ⟨rfl, refP_shut (A := { A with room := n.toNat }) hq H2⟩
theorem F80_spec {n : Int} (H : sat (refP m A :: F) h) : CallsH Tryz.prog 80 [ptrV m, .int .i64 n] h fun v h' => v = .int .i64 ((A.setFuse n).2 : Int) ∧ sat (refP m (A.setFuse n).1 :: F) h' := by
  apply F80b_ok
  unfold F80b AF.FS.setFuse
  by_cases h1 : n < 0
  · rw [decide_eq_true h1, cond_true, if_pos h1]
    exact ⟨rfl, H⟩
  · rw [decide_eq_false h1, cond_false, if_neg h1]
    obtain ⟨q, hq, H1⟩ := refP_open H
    rw [NN'_some', addr_add0]
    refine StCC (c' := refC { A with fuse := some n.toNat } q) H1 (by show 2 < 6; decide) (by show _ = (#[.int .i64 (A.room : Int), .int .i64 (A.steps : Int), .int .i64 ((n.toNat : Nat) : Int), .bool A.off, .slice q.fa A.files.length q.fc, .slice q.da A.dirs.length q.dc] : Array Value); rw [Int.toNat_of_nonneg (by omega)]; rfl) fun h2 H2 => ?_
    exact ⟨rfl, refP_shut (A := { A with fuse := some n.toNat }) hq H2⟩
/-- What is used. -/
theorem F85_spec (W : A.WF) (H : sat (refP m A :: F) h) : CallsH Tryz.prog 85 [ptrV m] h fun v h' => v = .int .i64 (A.used : Int) ∧ h' = h := by
  apply F85b_ok
  unfold F85b
  obtain ⟨q, hq, H1⟩ := refP_open H
  have hle := W.used_le
  have hfew := W.few
  simp only [NN'_some']
  let len : Nat → Nat := fun x => (A.X x).b.length
  let uS : Nat → Nat := fun i => (((A.dirs.take i).flatMap fun (d : AF.Dir) => d.now.map (·.2)).map len).sum
  have hfull : uS A.dirs.length = A.used := by
    show (((A.dirs.take A.dirs.length).flatMap fun (d : AF.Dir) => d.now.map (·.2)).map len).sum = _
    rw [List.take_length]
    rfl
  have hsucc : ∀ (i : Nat) (d : AF.Dir), A.dirs[i]? = some d → uS (i + 1) = uS i + (d.now.map fun (p : ByteArray × Nat) => len p.2).sum := by
    intro i d hd
    show (((A.dirs.take (i + 1)).flatMap fun (d : AF.Dir) => d.now.map (·.2)).map len).sum = _
    rw [List.take_add_one, hd, List.flatMap_append, List.map_append, List.sum_append]
    show _ + ((d.now.map (fun (p : ByteArray × Nat) => p.2) ++ []).map len).sum = _
    rw [List.append_nil, List.map_map]
    rfl
  have hmono : ∀ i, uS i ≤ A.used := by
    intro i
    rw [← hfull]
    show (((A.dirs.take i).flatMap fun (d : AF.Dir) => d.now.map (·.2)).map len).sum ≤ (((A.dirs.take A.dirs.length).flatMap fun (d : AF.Dir) => d.now.map (·.2)).map len).sum
    rw [List.take_length]
    have : A.dirs = A.dirs.take i ++ A.dirs.drop i := (List.take_append_drop i _).symm
    rw [show (A.dirs.flatMap fun (d : AF.Dir) => d.now.map (·.2)) = ((A.dirs.take i).flatMap fun (d : AF.Dir) => d.now.map (·.2)) ++ ((A.dirs.drop i).flatMap fun (d : AF.Dir) => d.now.map (·.2)) by rw [← List.flatMap_append, List.take_append_drop], List.map_append, List.sum_append]
    omega
  refine ⟨fun st hh => hh = h ∧ ∃ i : Nat, st = ((uS i : Int), (i : Int)) ∧ i ≤ A.dirs.length, fun st _ => ((A.dirs.length : Int) - st.2).toNat, ⟨rfl, 0, rfl, Nat.zero_le _⟩, ?_⟩
  rintro st h1 ⟨rfl, i, rfl, hi⟩
  refine LdSl (a := q.da) (l := A.dirs.length) (m := q.dc) H1 rfl ?_
  dsimp only
  by_cases hlt : i < A.dirs.length
  · rw [decide_eq_true (show ((i : Int) < (A.dirs.length : Int)) by omega), cond_true]
    obtain ⟨d, hd⟩ : ∃ d, A.dirs[i]? = some d := ⟨_, List.getElem?_eq_getElem hlt⟩
    obtain ⟨x, hx, _⟩ := rdir_read hq hd (H1.mv 3 |>.mv 3)
    have hrn := (lists_read hq hd hx H1).1
    have hok := (W.each d (List.mem_of_getElem? hd)).ok
    have hnl := hok.few
    let uI : Nat → Nat := fun k => uS i + ((d.now.take k).map fun (p : ByteArray × Nat) => len p.2).sum
    have hI : ∀ k, uI k ≤ A.used := by
      intro k
      refine Nat.le_trans ?_ (hmono (i + 1))
      rw [hsucc i d hd]
      show uS i + ((d.now.take k).map fun (p : ByteArray × Nat) => len p.2).sum ≤ _
      have := sum_take_le (d.now.map fun (p : ByteArray × Nat) => len p.2) k
      rw [← List.map_take] at this
      omega
    refine ⟨fun st hh => hh = h1 ∧ ∃ k : Nat, st = ((uI k : Int), (k : Int)) ∧ k ≤ d.now.length, fun st _ => ((d.now.length : Int) - st.2).toNat, ⟨rfl, 0, by show ((uS i : Int), (0 : Int)) = (((uS i + 0 : Nat) : Int), _); rw [Nat.add_zero]; rfl, Nat.zero_le _⟩, ?_⟩
    rintro st h2 ⟨rfl, k, rfl, hk⟩
    refine LdSl (a := q.da) (l := A.dirs.length) (m := q.dc) H1 rfl ?_
    refine dirx_read hq hd hx H1 fun b hc => CSl (hc 1 _ rfl) ?_
    dsimp only
    by_cases hlt2 : k < d.now.length
    · rw [decide_eq_true (show ((k : Int) < (d.now.length : Int)) by omega), cond_true]
      obtain ⟨p, hp⟩ : ∃ p, d.now[k]? = some p := ⟨_, List.getElem?_eq_getElem hlt2⟩
      have hpf := (hok.each p (List.mem_of_getElem? hp)).1
      obtain ⟨y, hy⟩ : ∃ y, A.files[p.2]? = some y := ⟨_, List.getElem?_eq_getElem hpf⟩
      have hy8 := (W.files y (List.mem_of_getElem? hy)).2.2
      refine LdSl (a := q.fa) (l := A.files.length) (m := q.fc) H1 rfl ?_
      refine LdSl (a := q.da) (l := A.dirs.length) (m := q.dc) H1 rfl ?_
      refine dirx_read hq hd hx H1 fun b hc => CSl (hc 1 _ rfl) ?_
      refine IdxC nameC_len (by decide) hrn rfl hp fun b hb hc => CInt (hc 1 _ rfl) ?_
      refine rfile_read hy H1 fun b e0 e1 => CStr e0 ?_
      have hlen : len p.2 = y.b.length := by
        show (A.X p.2).b.length = _
        rw [AF.X_of hy]
      have hI1 : uI (k + 1) = uI k + y.b.length := by
        show uS i + ((d.now.take (k + 1)).map fun (p : ByteArray × Nat) => len p.2).sum = uS i + ((d.now.take k).map fun (p : ByteArray × Nat) => len p.2).sum + _
        rw [List.take_add_one, hp, List.map_append, List.sum_append]
        show uS i + (_ + (len p.2 + 0)) = _
        rw [hlen]
        omega
      have hb1 := hI (k + 1)
      rw [ofN_size hy8, wrap64_succ (by omega), IntWalk.i64_in _ (by omega)]
      refine ⟨⟨rfl, k + 1, by rw [hI1]; rfl, by omega⟩, by show ((d.now.length : Int) - ((k + 1 : Nat) : Int)).toNat < ((d.now.length : Int) - (k : Int)).toNat; omega⟩
    · rw [decide_eq_false (by omega), cond_false, wrap64_succ (by omega)]
      have ek : uI k = uS (i + 1) := by
        rw [hsucc i d hd]
        show uS i + ((d.now.take k).map fun (p : ByteArray × Nat) => len p.2).sum = _
        rw [List.take_of_length_le (by omega)]
      refine ⟨⟨rfl, i + 1, by rw [ek], by omega⟩, by show ((A.dirs.length : Int) - ((i + 1 : Nat) : Int)).toNat < ((A.dirs.length : Int) - (i : Int)).toNat; omega⟩
  · rw [decide_eq_false (by omega), cond_false]
    have : i = A.dirs.length := by omega
    rw [this, hfull]
    exact ⟨rfl, rfl⟩
end

end Go.Proofs.YticjjdhaikbdaaaGreat

namespace Go.Proofs.YticjjdhaikbdaaaGreat
open Go Go.RowKit
set_option linter.unusedVariables false
set_option linter.unusedSimpArgs false

section
variable {m i : Nat} {A : AF.FS} {q : RefQ} {d d' : AF.Dir} {x x' : RDir} {F : List HProp} {h : Heap} {dir name : ByteArray}
theorem entry_err {e : Nat} (h : A.entry dir name = .error e) : e ≠ 0 := by
  unfold AF.FS.entry at h
  cases hr : A.ready dir [name] with
  | error e' =>
    rw [hr] at h
    cases h
    exact ready_err hr
  | ok i =>
    rw [hr] at h
    dsimp only at h
    split at h
    · cases h
    · cases h; decide
/-- An entry's directory and file. -/
theorem entry_full (W : A.WF) {k : Nat} (h : A.entry dir name = .ok (i, k)) : ∃ d y, A.dirs[i]? = some d ∧ d.name = dir ∧ AF.of d.now name = some k ∧ A.files[k]? = some y ∧ A.ready dir [name] = .ok i := by
  obtain ⟨hr, ho⟩ := AF.entry_ok h
  obtain ⟨_, _, _, _, d, hd, hdn⟩ := AF.ready_ok hr
  rw [AF.D_of hd] at ho
  have hok := (W.each d (List.mem_of_getElem? hd)).ok
  have hlt := (hok.each _ (AF.of_mem ho)).1
  exact ⟨d, A.files[k], hd, hdn, ho, List.getElem?_eq_getElem hlt, hr⟩
/-- Read. -/
def readRV : Except Nat (List Nat) → Value
  | .ok b => .tuple #[.string (ofN b), .int .i64 0]
  | .error e => .tuple #[.string .empty, .int .i64 (e : Int)]
theorem F71_spec (W : A.WF) (H : sat (refP m A :: F) h) : CallsH Tryz.prog 71 [ptrV m, .string dir, .string name] h fun v h' => v = readRV (A.read dir name) ∧ h' = h := by
  apply F71b_ok
  unfold F71b
  refine (F128_spec W H).mono ?_
  rintro v h1 ⟨rfl, rfl⟩
  unfold AF.FS.read
  cases he : A.entry dir name with
  | error e =>
    refine ⟨_, _, _, rfl, ?_⟩
    rw [err_bne (entry_err he), cond_true]
    exact ⟨rfl, rfl⟩
  | ok p =>
    obtain ⟨i, k⟩ := p
    obtain ⟨d, y, hd, _, _, hy, _⟩ := entry_full W he
    refine ⟨_, _, _, rfl, ?_⟩
    rw [show ((0 : Int) != 0) = false from rfl, cond_false]
    obtain ⟨q, hq, H1⟩ := refP_open H
    simp only [NN'_some']
    refine LdSl (a := q.fa) (l := A.files.length) (m := q.fc) H1 rfl ?_
    refine rfile_read hy H1 fun b e0 e1 => CStr e0 ?_
    simp only [AF.X_of hy]
    exact ⟨rfl, by trivial⟩
/-- List. -/
theorem F61_spec (W : A.WF) (H : sat (refP m A :: F) h) : CallsH Tryz.prog 61 [ptrV m, .string dir] h fun v h' =>
    (∃ (ks : List ByteArray) (a : Option Addr) (c : Nat), A.list dir = .ok ks ∧ v = .tuple #[.slice a ks.length c, .int .i64 0] ∧ sat (ownS 9 1 a ks.length c (ks.map Value.string) :: refP m A :: F) h') ∨
    (∃ e : Nat, A.list dir = .error e ∧ e ≠ 0 ∧ v = .tuple #[.slice none 0 0, .int .i64 (e : Int)] ∧ sat (refP m A :: F) h') := by
  apply F61b_ok
  unfold F61b
  have hfew := W.few
  refine (F127_spec (by omega) H).mono ?_
  rintro v h1 ⟨rfl, rfl⟩
  rw [ready_self]
  unfold AF.FS.list
  cases hr : A.ready dir [] with
  | error e =>
    have e0 := ready_err hr
    refine ⟨_, _, rfl, ?_⟩
    rw [err_bne e0, cond_true]
    exact .inr ⟨e, rfl, e0, rfl, H⟩
  | ok i =>
    obtain ⟨_, _, _, _, d, hd, _⟩ := AF.ready_ok hr
    refine ⟨_, _, rfl, ?_⟩
    rw [show ((0 : Int) != 0) = false from rfl, cond_false]
    dsimp only
    rw [AF.D_of hd]
    have hnl := (W.each d (List.mem_of_getElem? hd)).ok.few
    obtain ⟨q, hq, H1⟩ := refP_open H
    obtain ⟨x, hx, _⟩ := rdir_read hq hd (H1.mv 3 |>.mv 3)
    simp only [NN'_some']
    refine ⟨fun st hh => ∃ (k : Nat) (oa : Option Addr) (oc : Nat), st = (⟨oa, ((d.now.take k).map (·.1)).length, oc⟩, (k : Int)) ∧ k ≤ d.now.length ∧ sat (ownS 9 1 oa ((d.now.take k).map (·.1)).length oc (((d.now.take k).map (·.1)).map Value.string) :: pt m (.cells (refC A q) 97 (0, 0)) :: filesR A q :: dirsR A q :: listsR A q :: F) hh,
      fun st _ => ((d.now.length : Int) - st.2).toNat, ⟨0, none, 0, rfl, Nat.zero_le _, ownS_nil 9 1 H1⟩, ?_⟩
    rintro st h2 ⟨k, oa, oc, rfl, hk, H2⟩
    have R2 := H2.drop
    refine LdSl (a := q.da) (l := A.dirs.length) (m := q.dc) R2 rfl ?_
    refine dirx_read hq hd hx R2 fun b hc => CSl (hc 1 _ rfl) ?_
    dsimp only
    by_cases hlt : k < d.now.length
    · rw [decide_eq_true (show ((k : Int) < (d.now.length : Int)) by omega), cond_true]
      obtain ⟨p, hp⟩ : ∃ p, d.now[k]? = some p := ⟨_, List.getElem?_eq_getElem hlt⟩
      have ht : (d.now.take (k + 1)).map (·.1) = (d.now.take k).map (·.1) ++ [p.1] := by
        rw [List.take_add_one, hp, List.map_append]
        rfl
      have hlen : ((d.now.take k).map (·.1)).length = k := by rw [List.length_map, List.length_take]; omega
      refine LdSl (a := q.da) (l := A.dirs.length) (m := q.dc) R2 rfl ?_
      refine dirx_read hq hd hx R2 fun b hc => CSl (hc 1 _ rfl) ?_
      refine IdxC nameC_len (by decide) (lists_read hq hd hx R2).1 rfl hp fun b hb hc => CStr (hc 0 _ rfl) ?_
      rw [wrap64_succ (by omega)]
      refine push_own (K := fun _ h2 a l c => _) (by rw [hlen]; omega) H2 fun b3 a2 c2 h3 H3 => ?_
      rw [← ht] at H3 ⊢
      exact ⟨⟨k + 1, a2, c2, rfl, by omega, H3⟩, by show ((d.now.length : Int) - ((k + 1 : Nat) : Int)).toNat < ((d.now.length : Int) - (k : Int)).toNat; omega⟩
    · rw [decide_eq_false (by omega), cond_false]
      have et : d.now.take k = d.now := List.take_of_length_le (by omega)
      rw [et] at H2 ⊢
      exact .inl ⟨d.now.map (fun p : ByteArray × Nat => p.1), oa, oc, rfl, rfl, (refP_shut hq (H2.ordT 5 [1, 2, 3, 4, 0])).mv 1⟩
theorem set_modify {f : AF.FS} {k : Nat} {y : AF.File} {g : AF.File → AF.File} (hy : f.files[k]? = some y) : ({ f with files := f.files.set k (g y) } : AF.FS) = f.setFile k g := by
  unfold AF.FS.setFile
  rw [modify_set g hy]
/-- Append. -/
theorem F65_spec {s : ByteArray} (W : A.WF) (hs : A.steps < 1099511627776) (hsz : s.size < 4611686018427387904) (H : sat (refP m A :: F) h) :
    CallsH Tryz.prog 65 [ptrV m, .string dir, .string name, .string s] h fun v h' => v = .int .i64 ((A.append dir name (sb s)).2 : Int) ∧ sat (refP m (A.append dir name (sb s)).1 :: F) h' := by
  apply F65b_ok
  unfold F65b
  refine (F128_spec W H).mono ?_
  rintro v h1 ⟨rfl, rfl⟩
  cases he : A.entry dir name with
  | error e =>
    have eA : A.append dir name (sb s) = (A, e) := by unfold AF.FS.append; rw [he]
    refine ⟨_, _, _, rfl, ?_⟩
    rw [err_bne (entry_err he), cond_true, eA]
    exact ⟨rfl, H⟩
  | ok p =>
    obtain ⟨i, k⟩ := p
    obtain ⟨d, y, hd, _, _, hy, _⟩ := entry_full W he
    have hyW := W.files y (List.mem_of_getElem? hy)
    have hyl := ofN_size hyW.2.2
    have eA : A.append dir name (sb s) = if 16777216 < y.b.length + (sb s).length then (A, 67) else if A.room < A.used + (sb s).length then (A, 64) else A.step fun g => g.setFile k fun y => { y with b := y.b ++ sb s } := by
      unfold AF.FS.append
      rw [he]
      dsimp only
      rw [AF.X_of hy]
    have hsl := sb_length s
    have hul := W.used_le
    have hroom := W.room
    refine ⟨_, _, _, rfl, ?_⟩
    rw [show ((0 : Int) != 0) = false from rfl, cond_false]
    obtain ⟨q, hq, H1⟩ := refP_open H
    simp only [NN'_some']
    refine LdSl (a := q.fa) (l := A.files.length) (m := q.fc) H1 rfl ?_
    refine rfile_read hy H1 fun b e0 e1 => CStr e0 ?_
    rw [eA, hyl, IntWalk.i64_in _ (by omega), hsl]
    by_cases c1 : 16777216 < y.b.length + s.size
    · rw [decide_eq_true (by omega), cond_true, if_pos c1]
      exact ⟨rfl, H⟩
    · rw [decide_eq_false (by omega), cond_false, if_neg c1]
      refine ⟨_, (F85_spec W H).mono fun v h' hh => ⟨hh.1, hh.2⟩, ?_⟩
      rw [DI_int]
      refine LdInt (x := (A.room : Int)) H1 rfl ?_
      rw [IntWalk.i64_in _ (by omega)]
      by_cases c2 : A.room < A.used + s.size
      · rw [decide_eq_true (by omega), cond_true, if_pos c2]
        exact ⟨rfl, H⟩
      · rw [decide_eq_false (by omega), cond_false, if_neg c2]
        refine (F131_spec W hs H).mono ?_
        rintro v h2 (⟨hfu, rfl, H2⟩ | ⟨hfu, rfl, H2⟩)
        · rw [DI_int, show ((60 : Int) == 0) = false from rfl, cond_false, step_bad hfu]
          exact ⟨rfl, H2⟩
        · rw [DI_int, show ((0 : Int) == 0) = true from rfl, cond_true, step_good hfu]
          obtain ⟨q, hq, H3⟩ := refP_open H2
          have hy2 : A.stepOn.files[k]? = some y := hy
          refine LdSl (a := q.fa) (l := A.files.length) (m := q.fc) H3 rfl ?_
          refine LdSl (a := q.fa) (l := A.files.length) (m := q.fc) H3 rfl ?_
          refine rfile_read (A := A.stepOn) hy2 H3 fun b e0 e1 => CStr e0 ?_
          refine ⟨by rw [hyl]; omega, ?_⟩
          refine rfile_set (A := A.stepOn) (m := m) (y' := { y with b := y.b ++ sb s }) hy2 (j := 0) (by decide) ?_ H3 fun h4 H4 => ?_
          · show [Value.string (ofN y.b ++ s), .int .i64 (y.safe : Int)] = [Value.string (ofN (y.b ++ sb s)), .int .i64 (y.safe : Int)]
            rw [ofN_append, ofN_sb]
          · unfold refO at H4
            rw [set_modify (g := fun y => { y with b := y.b ++ sb s }) hy2] at H4
            exact ⟨rfl, refP_shut (A := A.stepOn.setFile k fun y => { y with b := y.b ++ sb s }) hq H4⟩
/-- Sync. -/
theorem F66_spec (W : A.WF) (hs : A.steps < 1099511627776) (H : sat (refP m A :: F) h) :
    CallsH Tryz.prog 66 [ptrV m, .string dir, .string name] h fun v h' => v = .int .i64 ((A.sync dir name).2 : Int) ∧ sat (refP m (A.sync dir name).1 :: F) h' := by
  apply F66b_ok
  unfold F66b
  refine (F128_spec W H).mono ?_
  rintro v h1 ⟨rfl, rfl⟩
  cases he : A.entry dir name with
  | error e =>
    have eA : A.sync dir name = (A, e) := by unfold AF.FS.sync; rw [he]
    refine ⟨_, _, _, rfl, ?_⟩
    rw [err_bne (entry_err he), cond_true, eA]
    exact ⟨rfl, H⟩
  | ok p =>
    obtain ⟨i, k⟩ := p
    obtain ⟨d, y, hd, _, _, hy, _⟩ := entry_full W he
    have eA : A.sync dir name = A.step fun g => g.setFile k fun y => { y with safe := y.b.length } := by unfold AF.FS.sync; rw [he]
    rw [eA]
    have hyl := ofN_size (W.files y (List.mem_of_getElem? hy)).2.2
    refine ⟨_, _, _, rfl, ?_⟩
    rw [show ((0 : Int) != 0) = false from rfl, cond_false]
    refine (F131_spec W hs H).mono ?_
    rintro v h2 (⟨hfu, rfl, H2⟩ | ⟨hfu, rfl, H2⟩)
    · rw [DI_int, show ((60 : Int) == 0) = false from rfl, cond_false, step_bad hfu]
      exact ⟨rfl, H2⟩
    · rw [DI_int, show ((0 : Int) == 0) = true from rfl, cond_true, step_good hfu]
      obtain ⟨q, hq, H3⟩ := refP_open H2
      have hy2 : A.stepOn.files[k]? = some y := hy
      simp only [NN'_some']
      refine LdSl (a := q.fa) (l := A.files.length) (m := q.fc) H3 rfl ?_
      refine LdSl (a := q.fa) (l := A.files.length) (m := q.fc) H3 rfl ?_
      refine rfile_read (A := A.stepOn) hy2 H3 fun b e0 e1 => CStr e0 ?_
      refine rfile_set (A := A.stepOn) (m := m) (y' := { y with safe := y.b.length }) hy2 (j := 1) (by decide) ?_ H3 fun h4 H4 => ?_
      · rw [hyl]
        rfl
      · unfold refO at H4
        rw [set_modify (g := fun y => { y with safe := y.b.length }) hy2] at H4
        exact ⟨rfl, refP_shut (A := A.stepOn.setFile k fun y => { y with safe := y.b.length }) hq H4⟩
end

end Go.Proofs.YticjjdhaikbdaaaGreat

namespace Go.Proofs.YticjjdhaikbdaaaGreat
open Go Go.RowKit
set_option linter.unusedVariables false
set_option linter.unusedSimpArgs false

section
variable {m i : Nat} {A : AF.FS} {q : RefQ} {d d' : AF.Dir} {x x' : RDir} {F : List HProp} {h : Heap} {dir name : ByteArray}
theorem lists_swap0 (hd : A.dirs[i]? = some d) (hx : q.qs[i]? = some x) (hP : ∀ F', sat (dirRP d x :: F') h → sat (dirRP d' x' :: F') h) (H : sat (listsR A q :: F) h) :
    sat (Many (List.zipWith dirRP (A.dirs.set i d') (q.qs.set i x')) :: F) h := by
  have H2 := many_out H hd hx
  have H3 := hP _ H2
  exact many_in2 (List.getElem?_eq_some_iff.1 hd).1 (List.getElem?_eq_some_iff.1 hx).1 H3
theorem dup_base (H : sat (dirRP d x :: F) h) : sat (dirRP ⟨d.name, d.now, d.now, d.pend⟩ ⟨x.na, x.nc, x.na, x.nc, x.pa, x.pc⟩ :: F) h := by
  have H2 := sat.dup (roS_pers _ _) H.open
  exact sat.shut (m := [roS x.na (d.now.flatMap nameC), roS x.na (d.now.flatMap nameC), roS x.pa (d.pend.flatMap opC)]) (H2.ordT 4 [0, 1, 3])
theorem no_pend (H : sat (dirRP d x :: F) h) : sat (dirRP ⟨d.name, d.now, d.base, []⟩ ⟨x.na, x.nc, x.ba, x.bc, none, 0⟩ :: F) h := by
  have H2 := H.open
  have H3 := roS_none (H2.ordT 3 [0, 1])
  exact sat.shut (m := [roS x.na (d.now.flatMap nameC), roS x.ba (d.base.flatMap nameC), roS none []]) (H3.ordT 3 [1, 2, 0])
/-- A directory's entries last: the two cells that are set. -/
theorem settle_tail {K : Heap → Prop} (hq : q.qs.length = A.dirs.length) (hd : A.dirs[i]? = some d) (hx : q.qs[i]? = some x) (H : refO m A q F h)
    (hK : ∀ h', sat (refP m (A.setDir i fun d => { d with base := d.now, pend := [] }) :: F) h' → K h') :
    IdxA q.da A.dirs.length (i : Int) 4 fun a3 => StC h ((a3.add 2).add 0) (.slice x.na d.now.length x.nc) fun h_3 =>
      Ld h_3 ((⟨m, 0, none⟩ : Addr).add 5) fun v3 => DSl v3 fun x5a x5l x5c => IdxA x5a x5l (i : Int) 4 fun a5 => StC h_3 ((a5.add 3).add 0) (.slice none 0 0) K := by
  have K1 := lists_swap0 (d' := ⟨d.name, d.now, d.now, d.pend⟩) (x' := ⟨x.na, x.nc, x.na, x.nc, x.pa, x.pc⟩) hd hx (fun F' H' => dup_base H') (H.mv 3)
  refine rdir_set (m := m) (d' := ⟨d.name, d.now, d.now, d.pend⟩) (x' := ⟨x.na, x.nc, x.na, x.nc, x.pa, x.pc⟩) hq hd hx (by decide) rfl (K1.ordT 4 [1, 2, 3, 0]) fun h3 H3 => ?_
  have hd2 := set_get (y := (⟨d.name, d.now, d.now, d.pend⟩ : AF.Dir)) hd
  have hx2 := set_get (y := (⟨x.na, x.nc, x.na, x.nc, x.pa, x.pc⟩ : RDir)) hx
  have hq2 : (q.qs.set i (⟨x.na, x.nc, x.na, x.nc, x.pa, x.pc⟩ : RDir)).length = (A.dirs.set i (⟨d.name, d.now, d.now, d.pend⟩ : AF.Dir)).length := by rw [List.length_set, List.length_set, hq]
  generalize hA3 : ({ A with dirs := A.dirs.set i (⟨d.name, d.now, d.now, d.pend⟩ : AF.Dir) } : AF.FS) = A3 at H3
  generalize hQ3 : ({ q with qs := q.qs.set i (⟨x.na, x.nc, x.na, x.nc, x.pa, x.pc⟩ : RDir) } : RefQ) = q3 at H3
  have hd4 : A3.dirs[i]? = some ⟨d.name, d.now, d.now, d.pend⟩ := by rw [← hA3]; exact hd2
  have hx4 : q3.qs[i]? = some ⟨x.na, x.nc, x.na, x.nc, x.pa, x.pc⟩ := by rw [← hQ3]; exact hx2
  have hq4 : q3.qs.length = A3.dirs.length := by rw [← hA3, ← hQ3]; exact hq2
  refine LdSl (a := q3.da) (l := A3.dirs.length) (m := q3.dc) H3 rfl ?_
  have K2 := lists_swap0 (A := A3) (q := q3) (d' := ⟨d.name, d.now, d.now, []⟩) (x' := ⟨x.na, x.nc, x.na, x.nc, none, 0⟩) hd4 hx4 (fun F' H' => no_pend H') (H3.mv 3)
  refine rdir_set (A := A3) (q := q3) (m := m) (d' := ⟨d.name, d.now, d.now, []⟩) (x' := ⟨x.na, x.nc, x.na, x.nc, none, 0⟩) hq4 hd4 hx4 (by decide) rfl (K2.ordT 4 [1, 2, 3, 0]) fun h4 H4 => hK h4 ?_
  have eA : ({ A3 with dirs := A3.dirs.set i (⟨d.name, d.now, d.now, []⟩ : AF.Dir) } : AF.FS) = A.setDir i fun d => { d with base := d.now, pend := [] } := by
    rw [← hA3]
    unfold AF.FS.setDir
    dsimp only
    rw [List.set_set, modify_set (fun d => { d with base := d.now, pend := [] }) hd]
  unfold refO at H4
  rw [eA] at H4
  refine refP_shut (q := { q3 with qs := q3.qs.set i (⟨x.na, x.nc, x.na, x.nc, none, 0⟩ : RDir) }) ?_ H4
  rw [← eA]
  show (q3.qs.set i _).length = (A3.dirs.set i _).length
  rw [List.length_set, List.length_set, hq4]
theorem F68_spec (W : A.WF) (hs : A.steps < 1099511627776) (H : sat (refP m A :: F) h) :
    CallsH Tryz.prog 68 [ptrV m, .string dir] h fun v h' => v = .int .i64 ((A.syncDir dir).2 : Int) ∧ sat (refP m (A.syncDir dir).1 :: F) h' := by
  apply F68b_ok
  unfold F68b
  have hfew := W.few
  refine (F127_spec (by omega) H).mono ?_
  rintro v h1 ⟨rfl, rfl⟩
  rw [ready_self]
  cases hr : A.ready dir [] with
  | error e =>
    have eA : A.syncDir dir = (A, e) := by unfold AF.FS.syncDir; rw [hr]
    refine ⟨_, _, rfl, ?_⟩
    rw [err_bne (ready_err hr), cond_true, eA]
    exact ⟨rfl, H⟩
  | ok i =>
    obtain ⟨_, _, _, _, d, hd, _⟩ := AF.ready_ok hr
    have eA : A.syncDir dir = A.step fun g => g.setDir i fun d => { d with base := d.now, pend := [] } := by unfold AF.FS.syncDir; rw [hr]
    rw [eA]
    refine ⟨_, _, rfl, ?_⟩
    rw [show ((0 : Int) != 0) = false from rfl, cond_false]
    refine (F131_spec W hs H).mono ?_
    rintro v h2 (⟨hfu, rfl, H2⟩ | ⟨hfu, rfl, H2⟩)
    · rw [DI_int, show ((60 : Int) == 0) = false from rfl, cond_false, step_bad hfu]
      exact ⟨rfl, H2⟩
    · rw [DI_int, show ((0 : Int) == 0) = true from rfl, cond_true, step_good hfu]
      obtain ⟨q, hq, H3⟩ := refP_open H2
      have hd2 : A.stepOn.dirs[i]? = some d := hd
      obtain ⟨x, hx, _⟩ := rdir_read hq hd2 (H3.mv 3 |>.mv 3)
      simp only [NN'_some']
      refine LdSl (a := q.da) (l := A.stepOn.dirs.length) (m := q.dc) H3 rfl ?_
      refine LdSl (a := q.da) (l := A.stepOn.dirs.length) (m := q.dc) H3 rfl ?_
      refine dirx_read (A := A.stepOn) hq hd2 hx H3 fun b hc => CSl (hc 1 _ rfl) ?_
      exact settle_tail (A := A.stepOn) hq hd2 hx H3 fun h' H' => ⟨rfl, H'⟩
/-- Rename. -/
theorem F67_spec {k : ByteArray} (W : A.WF) (hs : A.steps < 1099511627776) (H : sat (refP m A :: F) h) :
    CallsH Tryz.prog 67 [ptrV m, .string dir, .string name, .string k] h fun v h' => v = .int .i64 ((A.rename dir name k).2 : Int) ∧ sat (refP m (A.rename dir name k).1 :: F) h' := by
  apply F67b_ok
  unfold F67b
  have hfew := W.few
  refine (F127_spec (by omega) H).mono ?_
  rintro v h1 ⟨rfl, rfl⟩
  cases hr : A.ready dir [name, k] with
  | error e =>
    have eA : A.rename dir name k = (A, e) := by unfold AF.FS.rename; rw [hr]
    refine ⟨_, _, rfl, ?_⟩
    rw [err_bne (ready_err hr), cond_true, eA]
    exact ⟨rfl, H⟩
  | ok i =>
    obtain ⟨_, _, _, _, d, hd, _⟩ := AF.ready_ok hr
    have eA : A.rename dir name k = if (AF.of d.now name).isNone then (A, 62) else A.step fun g => g.did i (.rename name k) := by unfold AF.FS.rename; rw [hr]; dsimp only; rw [AF.D_of hd]
    rw [eA]
    refine ⟨_, _, rfl, ?_⟩
    rw [show ((0 : Int) != 0) = false from rfl, cond_false]
    obtain ⟨q, hq, H1⟩ := refP_open H
    obtain ⟨x, hx, _⟩ := rdir_read hq hd (H1.mv 3 |>.mv 3)
    have hnl := (W.each d (List.mem_of_getElem? hd)).ok.few
    simp only [NN'_some']
    refine LdSl (a := q.da) (l := A.dirs.length) (m := q.dc) H1 rfl ?_
    refine dirx_read hq hd hx H1 fun b hc => CSl (hc 1 _ rfl) ?_
    refine (F130_spec (lists_read hq hd hx H1).1 rfl (by omega)).mono ?_
    rintro v h2 ⟨rfl, rfl⟩
    rw [DI_int]
    cases ho : AF.of d.now name with
    | none =>
      rw [show ofI none = -1 from rfl, decide_eq_true (by decide), cond_true]
      exact ⟨rfl, H⟩
    | some y =>
      rw [show ofI (some y) = (y : Int) from rfl, decide_eq_false (by omega), cond_false]
      refine (F129_spec (o := .rename name k) rfl W hs hd (by show (AF.of d.now name).isSome = true; rw [ho]; rfl) H).mono ?_
      rintro v h3 ⟨rfl, H3⟩
      rw [DI_int]
      exact ⟨rfl, H3⟩
/-- Remove. -/
theorem F63_spec (W : A.WF) (hs : A.steps < 1099511627776) (H : sat (refP m A :: F) h) :
    CallsH Tryz.prog 63 [ptrV m, .string dir, .string name] h fun v h' => v = .int .i64 ((A.remove dir name).2 : Int) ∧ sat (refP m (A.remove dir name).1 :: F) h' := by
  apply F63b_ok
  unfold F63b
  refine (F128_spec W H).mono ?_
  rintro v h1 ⟨rfl, rfl⟩
  cases he : A.entry dir name with
  | error e =>
    have eA : A.remove dir name = (A, e) := by unfold AF.FS.remove; rw [he]
    refine ⟨_, _, _, rfl, ?_⟩
    rw [err_bne (entry_err he), cond_true, eA]
    exact ⟨rfl, H⟩
  | ok p =>
    obtain ⟨i, k⟩ := p
    obtain ⟨d, y, hd, _, _, hy, _⟩ := entry_full W he
    have eA : A.remove dir name = A.step fun g => g.did i (.remove name) := by unfold AF.FS.remove; rw [he]
    rw [eA]
    refine ⟨_, _, _, rfl, ?_⟩
    rw [show ((0 : Int) != 0) = false from rfl, cond_false]
    refine (F129_spec (o := .remove name) rfl W hs hd trivial H).mono ?_
    rintro v h3 ⟨rfl, H3⟩
    rw [DI_int]
    exact ⟨rfl, H3⟩
/-- Another file, at the end. -/
theorem rfile_push {y : AF.File} {cs : Array Value} {K : Heap → Prop} (hcs : cs.toList = fileRC y) (hm : A.files.length < 1099511627776) (H : refO m A q F h)
    (hK : ∀ fa fc h', refO m { A with files := A.files ++ [y] } { q with fa := fa, fc := fc } F h' → K h') :
    Al h (.cells cs 202) fun b0 h_3 => RunH Tryz.prog (Builtin.append_ #[94, 94] 94 #[.slice q.fa A.files.length q.fc, .slice (some (Addr.mk b0 0 none)) 1 1]) h_3 fun r4 h_4 => DSl r4 fun x9a x9l x9c => StC h_4 (((⟨m, 0, none⟩ : Addr).add 4).add 0) (.slice x9a x9l x9c) K := by
  refine pushEl (f := fileRC) (x := y) (xs := A.files) u107 src107 inf156 fileRC_len (fileRC_cell y) hcs rfl (by omega) (H.mv 1) fun a' c' h2 H2 => ?_
  rw [addr_add0]
  refine StCC (c' := refC { A with files := A.files ++ [y] } { q with fa := a', fc := c' }) (H2.mv 1) (by show 4 < 6; decide) (by
    show _ = (#[.int .i64 (A.room : Int), .int .i64 (A.steps : Int), .int .i64 (fuseI A.fuse), .bool A.off, .slice a' (A.files ++ [y]).length c', .slice q.da A.dirs.length q.dc] : Array Value)
    rw [List.length_append, List.length_singleton]
    rfl) fun h3 H3 => hK a' c' h3 ?_
  have e : A.files.length + 1 = (A.files ++ [y]).length := by rw [List.length_append, List.length_singleton]
  rw [e] at H3
  exact H3
/-- Create. -/
theorem F64_spec (W : A.WF) (hs : A.steps < 1099511627776) (hm : A.files.length < 1099511627776) (H : sat (refP m A :: F) h) :
    CallsH Tryz.prog 64 [ptrV m, .string dir, .string name] h fun v h' => v = .int .i64 ((A.create dir name).2 : Int) ∧ sat (refP m (A.create dir name).1 :: F) h' := by
  apply F64b_ok
  unfold F64b
  have hfew := W.few
  refine (F127_spec (by omega) H).mono ?_
  rintro v h1 ⟨rfl, rfl⟩
  rw [ready_two]
  cases hr : A.ready dir [name] with
  | error e =>
    have eA : A.create dir name = (A, e) := by unfold AF.FS.create; rw [hr]
    refine ⟨_, _, rfl, ?_⟩
    rw [err_bne (ready_err hr), cond_true, eA]
    exact ⟨rfl, H⟩
  | ok i =>
    obtain ⟨_, _, _, _, d, hd, _⟩ := AF.ready_ok hr
    have eA : A.create dir name = if (AF.of d.now name).isSome then (A, 63) else if 4096 ≤ d.now.length then (A, 66) else A.step fun g => AF.FS.did { g with files := g.files ++ [⟨[], 0⟩] } i (.create name g.files.length) := by unfold AF.FS.create; rw [hr]; dsimp only; rw [AF.D_of hd]
    rw [eA]
    refine ⟨_, _, rfl, ?_⟩
    rw [show ((0 : Int) != 0) = false from rfl, cond_false]
    obtain ⟨q, hq, H1⟩ := refP_open H
    obtain ⟨x, hx, _⟩ := rdir_read hq hd (H1.mv 3 |>.mv 3)
    have hnl := (W.each d (List.mem_of_getElem? hd)).ok.few
    simp only [NN'_some']
    refine LdSl (a := q.da) (l := A.dirs.length) (m := q.dc) H1 rfl ?_
    refine dirx_read hq hd hx H1 fun b hc => CSl (hc 1 _ rfl) ?_
    refine (F130_spec (lists_read hq hd hx H1).1 rfl (by omega)).mono ?_
    rintro v h2 ⟨rfl, rfl⟩
    rw [DI_int]
    cases ho : AF.of d.now name with
    | some y =>
      rw [show ofI (some y) = (y : Int) from rfl, decide_eq_true (by omega), cond_true]
      exact ⟨rfl, H⟩
    | none =>
      rw [show ofI none = -1 from rfl, decide_eq_false (by decide), cond_false]
      simp only [Option.isSome_none, Bool.false_eq_true, if_false]
      refine LdSl (a := q.da) (l := A.dirs.length) (m := q.dc) H1 rfl ?_
      refine dirx_read hq hd hx H1 fun b hc => CSl (hc 1 _ rfl) ?_
      by_cases c1 : 4096 ≤ d.now.length
      · rw [decide_eq_true (show ((d.now.length : Int) ≥ 4096) by omega), cond_true, if_pos c1]
        exact ⟨rfl, H⟩
      · rw [decide_eq_false (show ¬ ((d.now.length : Int) ≥ 4096) by omega), cond_false, if_neg c1]
        refine LdSl (a := q.fa) (l := A.files.length) (m := q.fc) H1 rfl ?_
        refine (F129_spec (o := .create name A.files.length) rfl W hs hd trivial H).mono ?_
        rintro v h3 ⟨rfl, H3⟩
        rw [DI_int]
        by_cases hfu : A.fuse = some 0
        · rw [step_bad hfu] at H3 ⊢
          rw [step_bad hfu]
          rw [show (((60 : Nat) : Int) == 0) = false from rfl, cond_false]
          exact ⟨rfl, H3⟩
        · rw [step_good hfu] at H3 ⊢
          rw [step_good hfu]
          rw [show (((0 : Nat) : Int) == 0) = true from rfl, cond_true]
          obtain ⟨q2, hq2, H4⟩ := refP_open H3
          refine LdSl (a := q2.fa) (l := A.files.length) (m := q2.fc) H4 rfl ?_
          exact rfile_push (A := A.stepOn.did i (.create name A.files.length)) (y := ⟨[], 0⟩) rfl hm H4 fun fa fc h' H' => ⟨rfl, refP_shut (q := { q2 with fa := fa, fc := fc }) hq2 H'⟩
end

end Go.Proofs.YticjjdhaikbdaaaGreat

namespace Go.Proofs.YticjjdhaikbdaaaGreat
open Go Go.RowKit
set_option linter.unusedVariables false
set_option linter.unusedSimpArgs false

theorem u108 : Tryz.prog.underlying 95 = some (.slice 127) := by kernel_rfl
theorem src108 : srcTy Tryz.prog 95 = true := by kernel_rfl
theorem inf121 : infoSz Tryz.prog 127 4 88 = true := by kernel_rfl
theorem dirRC_cell (p : AF.Dir × RDir) : ∀ u ∈ dirRC p, u.oneCell' = true := by
  intro u hu
  simp [dirRC] at hu
  rcases hu with rfl | rfl | rfl | rfl <;> rfl
abbrev DP2 := AF.Dir × RDir
def insP (e : DP2) : List DP2 → List DP2
  | [] => [e]
  | p :: l => if AF.ltB e.1.name p.1.name then e :: p :: l else p :: insP e l
theorem insP_fst (e : DP2) : ∀ l : List DP2, (insP e l).map (·.1) = AF.insDir e.1 (l.map (·.1))
  | [] => rfl
  | p :: l => by
    rw [insP, List.map_cons, AF.insDir]
    split
    · rfl
    · rw [List.map_cons, insP_fst e l]
theorem insP_perm (e : DP2) : ∀ l : List DP2, (insP e l).Perm (e :: l)
  | [] => .refl _
  | p :: l => by
    rw [insP]
    split
    · exact .refl _
    · exact ((insP_perm e l).cons p).trans (.swap _ _ _)
theorem insP_skip (e : DP2) {l2 : List DP2} : ∀ {l1 : List DP2}, (∀ p ∈ l1, AF.ltB e.1.name p.1.name = false) → insP e (l1 ++ l2) = l1 ++ insP e l2
  | [], _ => rfl
  | p :: l, h => by
    rw [List.cons_append, insP, if_neg (by rw [h p (by simp)]; simp), insP_skip e fun q hq => h q (by simp [hq])]
    rfl
theorem zip_fst_snd : ∀ l : List DP2, (l.map (·.1)).zip (l.map (·.2)) = l
  | [] => rfl
  | p :: l => by rw [List.map_cons, List.map_cons, List.zip_cons_cons, zip_fst_snd l]
theorem zip_fst {ds : List AF.Dir} {qs : List RDir} (h : qs.length = ds.length) : (ds.zip qs).map (·.1) = ds := by
  rw [List.map_fst_zip]
  omega
theorem zipWith_pairs : ∀ (l : List DP2), List.zipWith dirRP (l.map (·.1)) (l.map (·.2)) = l.map fun p => dirRP p.1 p.2
  | [] => rfl
  | p :: l => by rw [List.map_cons, List.map_cons, List.zipWith_cons_cons, zipWith_pairs l]; rfl
theorem zipWith_zip (ds : List AF.Dir) (qs : List RDir) : List.zipWith dirRP ds qs = (ds.zip qs).map fun p => dirRP p.1 p.2 := by
  rw [List.zip_eq_zipWith, List.map_zipWith]
theorem gt_eq (a b : ByteArray) : (!(strLt a b || strEq a b)) = AF.ltB b a := by
  rw [AF.strLt_eq, strEq_dec]
  by_cases e : a = b
  · rw [decide_eq_true e, Bool.or_true, Bool.not_true]
    cases hl : AF.ltB b a with
    | false => rfl
    | true => rw [e] at hl; exact absurd hl (AF.strLt_irrefl _)
  · rw [decide_eq_false e, Bool.or_false]
    cases hl : AF.ltB a b with
    | true =>
      cases hr : AF.ltB b a with
      | false => rfl
      | true => exact absurd (AF.strLt_trans hl hr) (AF.strLt_irrefl _)
    | false =>
      rw [AF.strLt_total e (by rw [hl]; simp)]
      rfl
section
variable {m i : Nat} {A : AF.FS} {q : RefQ} {d d' : AF.Dir} {x x' : RDir} {F : List HProp} {h : Heap} {dir name : ByteArray}
theorem F75_spec (W : A.WF) (hs : A.steps < 1099511627776) (H : sat (refP m A :: F) h) :
    CallsH Tryz.prog 75 [ptrV m, .string dir] h fun v h' => v = .int .i64 ((A.mkdir dir).2 : Int) ∧ sat (refP m (A.mkdir dir).1 :: F) h' := by
  apply F75b_ok
  unfold F75b
  have hfew := W.few
  refine (F127_spec (by omega) H).mono ?_
  rintro v h1 ⟨rfl, rfl⟩
  rw [ready_self]
  cases hr : A.ready dir [] with
  | ok i =>
    have eA : A.mkdir dir = (A, 63) := by unfold AF.FS.mkdir; rw [hr]
    refine ⟨_, _, rfl, ?_⟩
    rw [show ((0 : Int) == 0) = true from rfl, cond_true, eA]
    exact ⟨rfl, H⟩
  | error e =>
    have e0 := ready_err hr
    have eA : A.mkdir dir = if e = 61 then (if 64 ≤ A.dirs.length then (A, 66) else A.step fun g => { g with dirs := AF.insDir ⟨dir, [], [], []⟩ g.dirs }) else (A, e) := by unfold AF.FS.mkdir; rw [hr]
    rw [eA]
    refine ⟨_, _, rfl, ?_⟩
    rw [err_beq e0, cond_false]
    by_cases h61 : e = 61
    · subst h61
      rw [show (((61 : Nat) : Int) != 61) = false from rfl, cond_false, if_pos rfl]
      obtain ⟨q, hq, H1⟩ := refP_open H
      simp only [NN'_some']
      refine LdSl (a := q.da) (l := A.dirs.length) (m := q.dc) H1 rfl ?_
      by_cases c1 : 64 ≤ A.dirs.length
      · rw [decide_eq_true (show ((A.dirs.length : Int) ≥ 64) by omega), cond_true, if_pos c1]
        exact ⟨rfl, H⟩
      rw [decide_eq_false (show ¬ ((A.dirs.length : Int) ≥ 64) by omega), cond_false, if_neg c1]
      refine (F131_spec W hs H).mono ?_
      rintro v h2 (⟨hfu, rfl, H2⟩ | ⟨hfu, rfl, H2⟩)
      · rw [DI_int, show ((60 : Int) != 0) = true from rfl, cond_true, step_bad hfu]
        exact ⟨rfl, H2⟩
      rw [DI_int, show ((0 : Int) != 0) = false from rfl, cond_false, step_good hfu]
      clear H1 hq q
      obtain ⟨q, hq, H3⟩ := refP_open H2
      have hdl : A.stepOn.dirs.length = A.dirs.length := rfl
      have hzl : (A.dirs.zip q.qs).length = A.dirs.length := zip_len (A := A) hq
      generalize hzs : A.dirs.zip q.qs = zs at hzl
      let e0 : DP2 := (⟨dir, [], [], []⟩, ⟨none, 0, none, 0, none, 0⟩)
      have hrz : ∀ {h' : Heap} {G : List HProp}, refO m A.stepOn q G h' → RdC h' q.da (zs.flatMap dirRC) := fun H' => by
        have := ownS_read (H'.mv 2)
        rw [← hzs]
        exact this
      -- the end
      have fin : ∀ (oa : Option Addr) (oc : Nat) (h' : Heap), sat (ownS 127 4 oa (insP e0 zs).length oc ((insP e0 zs).flatMap dirRC) :: pt m (.cells (refC A.stepOn q) 97 (0, 0)) :: filesR A.stepOn q :: dirsR A.stepOn q :: listsR A.stepOn q :: F) h' →
          StC h' (((⟨m, 0, none⟩ : Addr).add 5).add 0) (.slice oa (insP e0 zs).length oc) fun h_14 => (fun v h' => v = Value.int .i64 ((({ A.stepOn with dirs := AF.insDir ⟨dir, [], [], []⟩ A.stepOn.dirs } : AF.FS), 0).2 : Int) ∧ sat (refP m (({ A.stepOn with dirs := AF.insDir ⟨dir, [], [], []⟩ A.stepOn.dirs } : AF.FS), 0).1 :: F) h') (.int .i64 0) h_14 := by
        intro oa oc h' H'
        have hfst : (insP e0 zs).map (·.1) = AF.insDir ⟨dir, [], [], []⟩ A.stepOn.dirs := by
          rw [insP_fst, ← hzs, zip_fst (ds := A.dirs) hq]
          rfl
        have hlen : (insP e0 zs).length = (AF.insDir ⟨dir, [], [], []⟩ A.stepOn.dirs).length := by rw [← hfst, List.length_map]
        rw [addr_add0]
        refine StCC (c' := refC { A.stepOn with dirs := AF.insDir ⟨dir, [], [], []⟩ A.stepOn.dirs } { q with da := oa, dc := oc, qs := (insP e0 zs).map (·.2) }) (H'.mv 1) (by show 5 < 6; decide) (by rw [hlen]; rfl) fun h3 H4 => ?_
        refine ⟨rfl, refP_shut (q := { q with da := oa, dc := oc, qs := (insP e0 zs).map (·.2) }) (by show ((insP e0 zs).map (·.2)).length = _; rw [List.length_map, hlen]) ?_⟩
        -- pt m, own, files, dirs old, lists old, F
        have conv : ∀ (P : HProp), sat (P :: ownS 127 4 oa (insP e0 zs).length oc ((insP e0 zs).flatMap dirRC) :: filesR A.stepOn q :: dirsR A.stepOn q :: listsR A.stepOn q :: F) h3 →
            sat (P :: filesR A.stepOn q :: ownS 127 4 oa (insP e0 zs).length oc ((insP e0 zs).flatMap dirRC) :: Many ((insP e0 zs).map fun p => dirRP p.1 p.2) :: F) h3 := by
          intro P HP
          have H5 : sat (Many (zs.map fun p => dirRP p.1 p.2) :: P :: filesR A.stepOn q :: ownS 127 4 oa (insP e0 zs).length oc ((insP e0 zs).flatMap dirRC) :: F) h3 := by
            have := HP.ordT 5 [4, 0, 2, 1]
            unfold listsR at this
            rw [zipWith_zip, show A.stepOn.dirs.zip q.qs = zs from hzs] at this
            exact this
          have H6 : sat (dirRP e0.1 e0.2 :: Many (zs.map fun p => dirRP p.1 p.2) :: P :: filesR A.stepOn q :: ownS 127 4 oa (insP e0 zs).length oc ((insP e0 zs).flatMap dirRC) :: F) h3 :=
            sat.shut (m := [roS none [], roS none [], roS none []]) (roS_none (roS_none (roS_none H5)))
          have hperm : (dirRP e0.1 e0.2 :: zs.map fun p => dirRP p.1 p.2).Perm ((insP e0 zs).map fun (p : DP2) => dirRP p.1 p.2) := ((insP_perm e0 zs).symm.map fun (p : DP2) => dirRP p.1 p.2)
          have H7 := many_perm hperm H6.consMany
          exact H7.ordT 4 [1, 2, 3, 0]
        have H8 := conv _ H4
        have hzw : List.zipWith dirRP (AF.insDir ⟨dir, [], [], []⟩ A.stepOn.dirs) ((insP e0 zs).map (·.2)) = (insP e0 zs).map fun p => dirRP p.1 p.2 := by rw [← hfst, zipWith_pairs]
        have hzz : (AF.insDir ⟨dir, [], [], []⟩ A.stepOn.dirs).zip ((insP e0 zs).map (·.2)) = insP e0 zs := by rw [← hfst, zip_fst_snd]
        unfold listsR dirsR
        dsimp only
        rw [hzw, hzz, ← hlen]
        exact H8
      refine ⟨fun st hh => ∃ (i : Nat) (oa : Option Addr) (oc : Nat) (out : List DP2) (dn : Bool), st = (⟨oa, out.length, oc⟩, dn, (i : Int)) ∧ i ≤ zs.length ∧ out.length ≤ i + 1 ∧ ((dn = false ∧ (∀ p ∈ zs.take i, AF.ltB dir p.1.name = false) ∧ out = zs.take i) ∨ (dn = true ∧ out ++ zs.drop i = insP e0 zs)) ∧
          sat (ownS 127 4 oa out.length oc (out.flatMap dirRC) :: pt m (.cells (refC A.stepOn q) 97 (0, 0)) :: filesR A.stepOn q :: dirsR A.stepOn q :: listsR A.stepOn q :: F) hh,
        fun st _ => ((zs.length : Int) - st.2.2).toNat, ⟨0, none, 0, [], false, rfl, Nat.zero_le _, Nat.zero_le _, .inl ⟨rfl, by simp, rfl⟩, ownS_nil 127 4 H3⟩, ?_⟩
      rintro st h3 ⟨i, oa, oc, out, dn, rfl, hi, hol, hcase, H4⟩
      have R4 := H4.drop
      refine LdSl (a := q.da) (l := A.dirs.length) (m := q.dc) R4 rfl ?_
      dsimp only
      by_cases hlt : i < zs.length
      · rw [decide_eq_true (show ((i : Int) < (A.dirs.length : Int)) by omega), cond_true]
        obtain ⟨p, hp⟩ : ∃ p, zs[i]? = some p := ⟨_, List.getElem?_eq_getElem hlt⟩
        have hdrop : zs.drop i = p :: zs.drop (i + 1) := by
          have h5 := (List.getElem?_eq_some_iff.1 hp)
          rw [List.drop_eq_getElem_cons h5.1, h5.2]
        have htk : zs.take (i + 1) = zs.take i ++ [p] := by rw [List.take_add_one, hp]; rfl
        have wi : IntKind.wrap .i64 ((i : Int) + 1) = ((i + 1 : Nat) : Int) := wrap64_succ (by omega)
        have hmeas : ((zs.length : Int) - ((i + 1 : Nat) : Int)).toNat < ((zs.length : Int) - (i : Int)).toNat := by omega
        have dcell : ∀ {h' : Heap} {G : List HProp} {K : Addr → Prop}, refO m A.stepOn q G h' → (∀ b, (∀ j v, (dirRC p)[j]? = some v → cellAt h' (b.add j) = some v) → K b) → IdxA q.da A.dirs.length (i : Int) 4 K := fun H' hK =>
          IdxC dirRC_len (by decide) (hrz H') hzl hp fun b hb hc => hK _ hc
        rcases hcase with ⟨rfl, hall, rfl⟩ | ⟨rfl, hins⟩
        · rw [Bool.not_false, cond_true]
          refine LdSl (a := q.da) (l := A.dirs.length) (m := q.dc) R4 rfl ?_
          refine dcell R4 fun b hc => CStr (hc 0 _ rfl) ?_
          rw [gt_eq]
          cases hgt : AF.ltB dir p.1.name with
          | true =>
            rw [cond_true]
            have hin : insP e0 zs = zs.take i ++ (e0 :: p :: zs.drop (i + 1)) := by
              have e1 : insP e0 zs = insP e0 (zs.take i ++ zs.drop i) := by rw [List.take_append_drop]
              rw [e1, insP_skip e0 hall, hdrop, insP, if_pos hgt]
            refine pushEl (f := dirRC) (x := e0) u108 src108 inf121 dirRC_len (dirRC_cell e0) rfl rfl (by omega) H4 fun a1 c1 h4 H5 => ?_
            have R5 := H5.drop
            refine LdSl (a := q.da) (l := A.dirs.length) (m := q.dc) R5 rfl ?_
            refine dcell R5 fun b hc => ⟨_, hc 0 _ rfl, _, hc 1 _ rfl, _, hc 2 _ rfl, _, hc 3 _ rfl, _, _, _, _, _, _, _, _, _, _, rfl, ?_⟩
            refine pushEl (f := dirRC) (x := p) u108 src108 inf121 dirRC_len (dirRC_cell p) rfl (by rw [List.length_append]; rfl) (by omega) H5 fun a2 c2 h5 H6 => ?_
            rw [wi]
            exact ⟨⟨i + 1, a2, c2, zs.take i ++ [e0] ++ [p], true, by rw [List.length_append, List.length_append]; rfl, by omega, by
              have : (zs.take i).length = i := by rw [List.length_take]; omega
              rw [List.length_append, List.length_append, List.length_singleton, List.length_singleton]; omega, .inr ⟨rfl, by rw [hin, List.append_assoc, List.append_assoc]; rfl⟩, by rw [List.length_append, List.length_append]; exact H6⟩, hmeas⟩
          | false =>
            rw [cond_false]
            refine LdSl (a := q.da) (l := A.dirs.length) (m := q.dc) R4 rfl ?_
            refine dcell R4 fun b hc => ⟨_, hc 0 _ rfl, _, hc 1 _ rfl, _, hc 2 _ rfl, _, hc 3 _ rfl, _, _, _, _, _, _, _, _, _, _, rfl, ?_⟩
            refine pushEl (f := dirRC) (x := p) u108 src108 inf121 dirRC_len (dirRC_cell p) rfl rfl (by omega) H4 fun a2 c2 h5 H6 => ?_
            rw [wi]
            refine ⟨⟨i + 1, a2, c2, zs.take (i + 1), false, by rw [htk, List.length_append]; rfl, by omega, by rw [List.length_take]; omega, .inl ⟨rfl, fun p' hp' => ?_, rfl⟩, by rw [htk, List.length_append]; exact H6⟩, hmeas⟩
            rw [htk] at hp'
            rcases List.mem_append.1 hp' with hp' | hp'
            · exact hall p' hp'
            · rw [List.mem_singleton] at hp'
              rw [hp']
              exact hgt
        · rw [Bool.not_true, cond_false]
          refine LdSl (a := q.da) (l := A.dirs.length) (m := q.dc) R4 rfl ?_
          refine dcell R4 fun b hc => ⟨_, hc 0 _ rfl, _, hc 1 _ rfl, _, hc 2 _ rfl, _, hc 3 _ rfl, _, _, _, _, _, _, _, _, _, _, rfl, ?_⟩
          refine pushEl (f := dirRC) (x := p) u108 src108 inf121 dirRC_len (dirRC_cell p) rfl rfl (by omega) H4 fun a2 c2 h5 H6 => ?_
          rw [wi]
          exact ⟨⟨i + 1, a2, c2, out ++ [p], true, by rw [List.length_append]; rfl, by omega, by rw [List.length_append, List.length_singleton]; omega, .inr ⟨rfl, by rw [← hins, hdrop, List.append_assoc]; rfl⟩, by rw [List.length_append]; exact H6⟩, hmeas⟩
      · rw [decide_eq_false (by omega), cond_false]
        rcases hcase with ⟨rfl, hall, rfl⟩ | ⟨rfl, hins⟩
        · rw [Bool.not_false, cond_true]
          have et : zs.take i = zs := List.take_of_length_le (by omega)
          rw [et] at hall H4 hol ⊢
          have hin : insP e0 zs = zs ++ [e0] := by
            have := insP_skip e0 (l2 := []) hall
            rw [List.append_nil] at this
            exact this
          refine pushEl (f := dirRC) (x := e0) u108 src108 inf121 dirRC_len (dirRC_cell e0) rfl rfl (by omega) H4 fun a2 c2 h5 H6 => ?_
          have el : zs.length + 1 = (insP e0 zs).length := by rw [hin, List.length_append, List.length_singleton]
          rw [el, ← hin] at H6
          rw [el]
          exact fin a2 c2 h5 H6
        · rw [Bool.not_true, cond_false]
          rw [List.drop_eq_nil_of_le (by omega), List.append_nil] at hins
          subst hins
          exact fin oa oc h3 H4
    · have : ((e : Int) != 61) = true := by rw [bne_iff_ne]; omega
      rw [this, cond_true, if_neg h61]
      exact ⟨rfl, H⟩
end

end Go.Proofs.YticjjdhaikbdaaaGreat

namespace Go.Proofs.YticjjdhaikbdaaaGreat
open Go Go.RowKit
set_option linter.unusedVariables false
set_option linter.unusedSimpArgs false

section
variable {m i : Nat} {A : AF.FS} {q : RefQ} {d d' : AF.Dir} {x x' : RDir} {F : List HProp} {h : Heap} {dir name : ByteArray}
theorem F82_spec {at_ : Int} {turn : Nat} (W : A.WF) (ht : turn < 256) (H : sat (refP m A :: F) h) :
    CallsH Tryz.prog 82 [ptrV m, .string dir, .string name, .int .i64 at_, .int .u8 (turn : Int)] h fun v h' => v = .int .i64 ((A.spoil dir name at_ turn).2 : Int) ∧ sat (refP m (A.spoil dir name at_ turn).1 :: F) h' := by
  apply F82b_ok
  unfold F82b
  have hfew := W.few
  refine (F139_spec (by omega) H).mono ?_
  rintro v h1 ⟨rfl, rfl⟩
  rw [named_two]
  cases hr : A.named dir [name] with
  | error e =>
    have eA : A.spoil dir name at_ turn = (A, e) := by unfold AF.FS.spoil; rw [hr]
    refine ⟨_, _, rfl, ?_⟩
    rw [err_bne (AF.named_err hr), cond_true, eA]
    exact ⟨rfl, H⟩
  | ok i =>
    obtain ⟨_, _, d, hd, _⟩ := AF.named_ok hr
    have eA : A.spoil dir name at_ turn = match AF.of d.now name with
        | none => (A, 62)
        | some x => if at_ < 0 ∨ ((A.X x).b.length : Int) ≤ at_ then (A, 2) else (A.setFile x fun y => { y with b := y.b.modify at_.toNat (· ^^^ turn) }, 0) := by
      unfold AF.FS.spoil
      rw [hr]
      dsimp only
      rw [AF.D_of hd] <;> rfl
    rw [eA]
    refine ⟨_, _, rfl, ?_⟩
    rw [show ((0 : Int) != 0) = false from rfl, cond_false]
    obtain ⟨q, hq, H1⟩ := refP_open H
    obtain ⟨x, hx, _⟩ := rdir_read hq hd (H1.mv 3 |>.mv 3)
    have hok := (W.each d (List.mem_of_getElem? hd)).ok
    have hnl := hok.few
    simp only [NN'_some']
    refine LdSl (a := q.da) (l := A.dirs.length) (m := q.dc) H1 rfl ?_
    refine dirx_read hq hd hx H1 fun b hc => CSl (hc 1 _ rfl) ?_
    refine (F130_spec (lists_read hq hd hx H1).1 rfl (by omega)).mono ?_
    rintro v h2 ⟨rfl, rfl⟩
    rw [DI_int]
    cases ho : AF.of d.now name with
    | none =>
      rw [show ofI none = -1 from rfl, decide_eq_true (by decide), cond_true]
      exact ⟨rfl, H⟩
    | some k =>
      rw [show ofI (some k) = (k : Int) from rfl, decide_eq_false (by omega), cond_false]
      dsimp only
      by_cases h1 : at_ < 0
      · rw [decide_eq_true h1, cond_true]
        simp only [h1, true_or, if_true]
        exact ⟨rfl, H⟩
      rw [decide_eq_false h1, cond_false]
      have hkf := (hok.each _ (AF.of_mem ho)).1
      obtain ⟨y, hy⟩ : ∃ y, A.files[k]? = some y := ⟨_, List.getElem?_eq_getElem hkf⟩
      have hyW := W.files y (List.mem_of_getElem? hy)
      have hyl := ofN_size hyW.2.2
      rw [AF.X_of hy]
      refine LdSl (a := q.fa) (l := A.files.length) (m := q.fc) H1 rfl ?_
      refine rfile_read hy H1 fun b e0 e1 => CStr e0 ?_
      rw [hyl]
      by_cases h2 : ((y.b.length : Nat) : Int) ≤ at_
      · rw [decide_eq_true (show at_ ≥ (y.b.length : Int) from h2), cond_true, if_pos (.inr h2)]
        exact ⟨rfl, H⟩
      rw [decide_eq_false (show ¬ at_ ≥ (y.b.length : Int) from h2), cond_false, if_neg (by rintro (h | h); exact h1 h; exact h2 h)]
      obtain ⟨p, rfl⟩ : ∃ p : Nat, at_ = (p : Int) := ⟨at_.toNat, by omega⟩
      rw [Int.toNat_natCast]
      refine LdSl (a := q.fa) (l := A.files.length) (m := q.fc) H1 rfl ?_
      refine rfile_read hy H1 fun b e0 e1 => CStr e0 ?_
      refine cText H1 (by rw [hyl]; unfold maxLen; omega) fun ba bc h3 H3 => ?_
      rw [DSl_slice]
      have esb : sb (ofN y.b) = y.b := sb_ofN hyW.2.2
      rw [esb, hyl] at H3
      rw [hyl]
      obtain ⟨n, hn⟩ : ∃ n, y.b[p]? = some n := ⟨_, List.getElem?_eq_getElem (by omega)⟩
      have hn8 := hyW.2.2 n (List.mem_of_getElem? hn)
      have hget : (y.b.map nv)[p]? = some (nv n) := by rw [List.getElem?_map, hn]; rfl
      refine IdxA_nat (ownS_read H3) (List.length_map ..) hget fun b1 hb1 hc1 => ⟨_, hc1, _, rfl, ?_⟩
      refine IdxA_nat (ownS_read H3) (List.length_map ..) hget fun b2 hb2 hc2 => ?_
      rw [xor8 hn8 ht, addr_add0]
      rw [hb2] at H3
      refine ownS_set H3 (by rw [List.length_map]; omega) fun h4 H4 => ?_
      have eset : (y.b.map nv).set p (.int .u8 ((n ^^^ turn : Nat) : Int)) = (y.b.modify p (· ^^^ turn)).map nv := by
        rw [modify_set (· ^^^ turn) hn, List.map_set]
        rfl
      rw [eset] at H4
      have el : (y.b.modify p (· ^^^ turn)).length = y.b.length := List.length_modify ..
      have m8 : B8 (y.b.modify p (· ^^^ turn)) := by
        intro k hk
        rcases AF.mem_modify hk with hk | ⟨d, hd, rfl⟩
        · exact hyW.2.2 k hk
        · exact Nat.xor_lt_two_pow (n := 8) (hyW.2.2 d (List.mem_of_getElem? hd)) ht
      refine LdSl (a := q.fa) (l := A.files.length) (m := q.fc) H4.drop rfl ?_
      refine ⟨ofN (y.b.modify p (· ^^^ turn)), ?_, ?_⟩
      · rw [hb2]
        exact bytesIn_of (ownS_read H4) el m8
      · refine rfile_set (A := A) (m := m) (y' := { y with b := y.b.modify p (· ^^^ turn) }) hy (j := 0) (by decide) rfl H4.drop fun h5 H5 => ?_
        unfold refO at H5
        rw [set_modify (g := fun y => { y with b := y.b.modify p (· ^^^ turn) }) hy] at H5
        exact ⟨rfl, refP_shut (A := A.setFile k fun y => { y with b := y.b.modify p (· ^^^ turn) }) hq H5⟩
end

end Go.Proofs.YticjjdhaikbdaaaGreat

namespace Go.Proofs.YticjjdhaikbdaaaGreat
open Go Go.RowKit
set_option linter.unusedVariables false
set_option linter.unusedSimpArgs false

section
variable {m i : Nat} {A : AF.FS} {q : RefQ} {d d' : AF.Dir} {x x' : RDir} {F : List HProp} {h : Heap} {dir name : ByteArray}
theorem plant_tailR {bs : ByteArray} {Q : Value → Heap → Prop} {hh : Heap} (W : A.WF) (hq : q.qs.length = A.dirs.length) (hd : A.dirs[i]? = some d) (hm : A.files.length < 1099511627776) (H : refO m A q F hh)
    (hQ : ∀ h', sat (refP m (A.planted i name (sb bs)) :: F) h' → Q (.int .i64 0) h') :
    NN' (some ⟨m, 0, none⟩) fun a18 =>
    Ld hh (a18.add 4) fun v14 => DSl v14 fun x19a x19l x19c =>
    Al hh (.cells #[.string bs, .int .i64 ((bs : ByteArray).size : Int)] 202) fun b2 h_13 =>
    RunH Tryz.prog (Builtin.append_ #[94, 94] 94 #[.slice x19a x19l x19c, .slice (some (Addr.mk b2 0 none)) 1 1]) h_13 fun r10 h_14 =>
    DSl r10 fun x20a x20l x20c =>
    NN' (some ⟨m, 0, none⟩) fun a19 =>
    StC h_14 ((a19.add 4).add 0) (.slice x20a x20l x20c) fun h_16 =>
    NN' (some ⟨m, 0, none⟩) fun a20 =>
    Ld h_16 (a20.add 5) fun v15 => DSl v15 fun x21a x21l x21c =>
    NN' (some ⟨m, 0, none⟩) fun a21 =>
    Ld h_16 (a21.add 5) fun v16 => DSl v16 fun x22a x22l x22c =>
    IdxA x22a x22l (i : Int) 4 fun a22 =>
    Ld h_16 (a22.add 1) fun v17 => DSl v17 fun x23a x23l x23c =>
    NN' (some ⟨m, 0, none⟩) fun a23 =>
    Ld h_16 (a23.add 4) fun v18 => DSl v18 fun x24a x24l x24c =>
    CallsH Tryz.prog 140 [.slice x23a x23l x23c, .string name, .int .i64 (IntKind.wrap .i64 ((x24l : Int) - 1))] h_16 fun r12 h_17 =>
    DSl r12 fun x25a x25l x25c =>
    (SameV (some (.pointer (some ⟨m, 0, none⟩))) (.pointer (some ⟨m, 0, none⟩))) ∧
    (NN' (some ⟨m, 0, none⟩) fun a24 =>
    SameV (some (.pointer (some a20))) (.pointer (some a24))) ∧
    (SameV (some (.pointer (some (a20.add 5)))) (.pointer (some (a20.add 5)))) ∧
    (Ld h_17 (a20.add 5) fun v19 => DSl v19 fun x26a x26l x26c =>
    SameV (some (.slice x21a x21l x21c)) (.slice x26a x26l x26c)) ∧
    (SameV (some (.int .i64 (i : Int))) (.int .i64 (i : Int))) ∧
    IdxA x21a x21l (i : Int) 4 fun a25 =>
    StC h_17 ((a25.add 1).add 0) (.slice x25a x25l x25c) fun h_19 =>
    NN' (some ⟨m, 0, none⟩) fun a26 =>
    Ld h_19 (a26.add 5) fun v20 => DSl v20 fun x27a x27l x27c =>
    NN' (some ⟨m, 0, none⟩) fun a27 =>
    Ld h_19 (a27.add 5) fun v21 => DSl v21 fun x28a x28l x28c =>
    IdxA x28a x28l (i : Int) 4 fun a28 =>
    Ld h_19 (a28.add 1) fun v22 => DSl v22 fun x29a x29l x29c =>
    IdxA x27a x27l (i : Int) 4 fun a29 =>
    StC h_19 ((a29.add 2).add 0) (.slice x29a x29l x29c) fun h_21 =>
    NN' (some ⟨m, 0, none⟩) fun a30 =>
    Ld h_21 (a30.add 5) fun v23 => DSl v23 fun x30a x30l x30c =>
    IdxA x30a x30l (i : Int) 4 fun a31 =>
    StC h_21 ((a31.add 3).add 0) (.slice none 0 0) fun h_23 =>
    Q (.int .i64 0) h_23 := by
  simp only [NN'_some']
  obtain ⟨x, hx, _⟩ := rdir_read hq hd (H.mv 3 |>.mv 3)
  have hok := (W.each d (List.mem_of_getElem? hd)).ok
  have hnl := hok.few
  have hsl := sb_length bs
  refine LdSl (a := q.fa) (l := A.files.length) (m := q.fc) H rfl ?_
  refine rfile_push (A := A) (q := q) (m := m) (y := ⟨sb bs, (sb bs).length⟩) (by show [Value.string bs, .int .i64 (bs.size : Int)] = [Value.string (ofN (sb bs)), .int .i64 (((sb bs).length : Nat) : Int)]; rw [ofN_sb, hsl]) hm H fun fa fc h2 H2 => ?_
  have hfl : ({ A with files := A.files ++ [⟨sb bs, (sb bs).length⟩] } : AF.FS).files.length = A.files.length + 1 := by show (A.files ++ [_]).length = _; rw [List.length_append, List.length_singleton]
  generalize hA1 : ({ A with files := A.files ++ [⟨sb bs, (sb bs).length⟩] } : AF.FS) = A1 at H2 hfl
  generalize hq1e : ({ q with fa := fa, fc := fc } : RefQ) = q1 at H2
  have hd1 : A1.dirs[i]? = some d := by rw [← hA1]; exact hd
  have hx1 : q1.qs[i]? = some x := by rw [← hq1e]; exact hx
  have hq1 : q1.qs.length = A1.dirs.length := by rw [← hA1, ← hq1e]; exact hq
  refine LdSl (a := q1.da) (l := A1.dirs.length) (m := q1.dc) H2 rfl ?_
  refine LdSl (a := q1.da) (l := A1.dirs.length) (m := q1.dc) H2 rfl ?_
  refine dirx_read hq1 hd1 hx1 H2 fun b hc => CSl (hc 1 _ rfl) ?_
  refine LdSl (a := q1.fa) (l := A1.files.length) (m := q1.fc) H2 rfl ?_
  have w : IntKind.wrap .i64 ((A1.files.length : Int) - 1) = (A.files.length : Int) := by rw [hfl, IntWalk.i64_in _ (by omega)]; omega
  rw [w]
  refine (F140_spec hok.up (fun h' hh => (lists_read hq1 hd1 hx1 hh).1) rfl (by omega) H2).mono ?_
  rintro v h3 ⟨na, nc, rfl, H3⟩
  rw [DSl_slice]
  refine ⟨rfl, rfl, rfl, LdSl (a := q1.da) (l := A1.dirs.length) (m := q1.dc) (H3.mv 1) rfl rfl, rfl, ?_⟩
  have K1 := lists_now (c' := nc) hd1 hx1 ((roS_of H3).ordT 5 [4, 0, 1, 2, 3])
  refine rdir_set (A := A1) (q := q1) (m := m) (d' := (⟨d.name, AF.ins name A.files.length d.now, d.base, d.pend⟩ : AF.Dir)) (x' := (⟨na, nc, x.ba, x.bc, x.pa, x.pc⟩ : RDir)) hq1 hd1 hx1 (by decide) rfl (K1.ordT 4 [1, 2, 3, 0]) fun h4 H4 => ?_
  have hd2 := set_get (y := (⟨d.name, AF.ins name A.files.length d.now, d.base, d.pend⟩ : AF.Dir)) hd1
  have hx2 := set_get (y := (⟨na, nc, x.ba, x.bc, x.pa, x.pc⟩ : RDir)) hx1
  have hq2 : (q1.qs.set i (⟨na, nc, x.ba, x.bc, x.pa, x.pc⟩ : RDir)).length = (A1.dirs.set i (⟨d.name, AF.ins name A.files.length d.now, d.base, d.pend⟩ : AF.Dir)).length := by rw [List.length_set, List.length_set, hq1]
  generalize hA3 : ({ A1 with dirs := A1.dirs.set i (⟨d.name, AF.ins name A.files.length d.now, d.base, d.pend⟩ : AF.Dir) } : AF.FS) = A3 at H4
  generalize hQ3 : ({ q1 with qs := q1.qs.set i (⟨na, nc, x.ba, x.bc, x.pa, x.pc⟩ : RDir) } : RefQ) = q3 at H4
  have hd4 : A3.dirs[i]? = some ⟨d.name, AF.ins name A.files.length d.now, d.base, d.pend⟩ := by rw [← hA3]; exact hd2
  have hx4 : q3.qs[i]? = some ⟨na, nc, x.ba, x.bc, x.pa, x.pc⟩ := by rw [← hQ3]; exact hx2
  have hq4 : q3.qs.length = A3.dirs.length := by rw [← hA3, ← hQ3]; exact hq2
  refine LdSl (a := q3.da) (l := A3.dirs.length) (m := q3.dc) H4 rfl ?_
  refine LdSl (a := q3.da) (l := A3.dirs.length) (m := q3.dc) H4 rfl ?_
  refine dirx_read hq4 hd4 hx4 H4 fun b hc => CSl (hc 1 _ rfl) ?_
  refine settle_tail (A := A3) (q := q3) hq4 hd4 hx4 H4 fun h' H' => hQ h' ?_
  have eA : (A3.setDir i fun d => { d with base := d.now, pend := [] }) = A.planted i name (sb bs) := by
    rw [← hA3, ← hA1]
    unfold AF.FS.planted AF.FS.setDir
    dsimp only
    rw [modify_set (fun d => { d with base := d.now, pend := [] }) (set_get hd), List.set_set, modify_set (fun d : AF.Dir => { d with now := AF.ins name A.files.length d.now, base := AF.ins name A.files.length d.now, pend := [] }) hd]
  rw [eA] at H'
  exact H'
theorem F83_spec {bs : ByteArray} (W : A.WF) (hm : A.files.length < 1099511627776) (H : sat (refP m A :: F) h) :
    CallsH Tryz.prog 83 [ptrV m, .string dir, .string name, .string bs] h fun v h' => v = .int .i64 ((A.plant dir name (sb bs)).2 : Int) ∧ sat (refP m (A.plant dir name (sb bs)).1 :: F) h' := by
  apply F83b_ok
  unfold F83b
  have hfew := W.few
  have hsl := sb_length bs
  refine (F139_spec (by omega) H).mono ?_
  rintro v h1 ⟨rfl, rfl⟩
  rw [named_two]
  cases hr : A.named dir [name] with
  | error e =>
    have eA : A.plant dir name (sb bs) = (A, e) := by unfold AF.FS.plant; rw [hr]
    refine ⟨_, _, rfl, ?_⟩
    rw [err_bne (AF.named_err hr), cond_true, eA]
    exact ⟨rfl, H⟩
  | ok i =>
    obtain ⟨_, _, d, hd, _⟩ := AF.named_ok hr
    have eA : A.plant dir name (sb bs) = if 16777216 < bs.size then (A, 67) else if (AF.of d.now name).isNone ∧ 4096 ≤ d.now.length then (A, 66) else (A.planted i name (sb bs), 0) := by
      unfold AF.FS.plant
      rw [hr]
      dsimp only
      rw [AF.D_of hd, hsl]
    rw [eA]
    refine ⟨_, _, rfl, ?_⟩
    rw [show ((0 : Int) != 0) = false from rfl, cond_false]
    by_cases c1 : 16777216 < bs.size
    · rw [decide_eq_true (show ((bs.size : Int) > 16777216) by omega), cond_true, if_pos c1]
      exact ⟨rfl, H⟩
    rw [decide_eq_false (show ¬ ((bs.size : Int) > 16777216) by omega), cond_false, if_neg c1]
    obtain ⟨q, hq, H1⟩ := refP_open H
    obtain ⟨x, hx, _⟩ := rdir_read hq hd (H1.mv 3 |>.mv 3)
    have hok := (W.each d (List.mem_of_getElem? hd)).ok
    have hnl := hok.few
    rw [NN'_some']
    refine LdSl (a := q.da) (l := A.dirs.length) (m := q.dc) H1 rfl ?_
    refine dirx_read hq hd hx H1 fun b hc => CSl (hc 1 _ rfl) ?_
    refine (F130_spec (lists_read hq hd hx H1).1 rfl (by omega)).mono ?_
    rintro v h2 ⟨rfl, rfl⟩
    rw [DI_int]
    cases ho : AF.of d.now name with
    | none =>
      rw [show ofI none = -1 from rfl, decide_eq_true (by decide), cond_true, NN'_some']
      refine LdSl (a := q.da) (l := A.dirs.length) (m := q.dc) H1 rfl ?_
      refine dirx_read hq hd hx H1 fun b hc => CSl (hc 1 _ rfl) ?_
      by_cases c2 : 4096 ≤ d.now.length
      · rw [decide_eq_true (show ((d.now.length : Int) ≥ 4096) by omega), cond_true, if_pos ⟨rfl, c2⟩]
        exact ⟨rfl, H⟩
      · rw [decide_eq_false (show ¬ ((d.now.length : Int) ≥ 4096) by omega), cond_false, if_neg (fun hh => c2 hh.2)]
        exact plant_tailR (Q := fun v h' => v = .int .i64 (((A.planted i name (sb bs), 0) : AF.FS × Nat).2 : Int) ∧ sat (refP m ((A.planted i name (sb bs), 0) : AF.FS × Nat).1 :: F) h') W hq hd hm H1 fun h' H' => ⟨rfl, H'⟩
    | some k =>
      rw [show ofI (some k) = (k : Int) from rfl, decide_eq_false (by omega), cond_false, if_neg (fun hh => by cases hh.1)]
      exact plant_tailR (Q := fun v h' => v = .int .i64 (((A.planted i name (sb bs), 0) : AF.FS × Nat).2 : Int) ∧ sat (refP m ((A.planted i name (sb bs), 0) : AF.FS × Nat).1 :: F) h') W hq hd hm H1 fun h' H' => ⟨rfl, H'⟩
end

end Go.Proofs.YticjjdhaikbdaaaGreat

namespace Go.Proofs.YticjjdhaikbdaaaGreat
open Go Go.RowKit
set_option linter.unusedVariables false
set_option linter.unusedSimpArgs false

section
variable {m i : Nat} {A : AF.FS} {q : RefQ} {d d' : AF.Dir} {x x' : RDir} {F : List HProp} {h : Heap} {dir name : ByteArray}
theorem F137_pks {ps : List Int} {a : Option Addr} {l c k : Nat} (hp : Pks F ps a l c) (hk : k < 9223372036854775807) :
    ∃ (a2 : Option Addr) (l2 c2 : Nat), Pks F (AF.pick ps k).2 a2 l2 c2 ∧ ∀ h, sat F h → CallsH Tryz.prog 137 [.slice a l c, .int .i64 (k : Int)] h fun v h' => v = .tuple #[.int .i64 ((AF.pick ps k).1 : Int), .slice a2 l2 c2] ∧ h' = h := by
  cases ps with
  | nil =>
    have hl : l = 0 := hp.len.symm
    subst hl
    refine ⟨a, 0, c, hp, fun h hF => ?_⟩
    apply F137b_ok
    unfold F137b
    exact ⟨rfl, rfl⟩
  | cons p ps =>
    have hl := hp.len
    have hcap := hp.cap
    rw [List.length_cons] at hl
    refine ⟨subA a 1 c 1, l - 1, c - 1, ⟨by show ps.length = l - 1; omega, by omega, fun h' hh => ?_⟩, fun h hF => ?_⟩
    · have := (hp.read h' hh).sub 1 (l - 1) c (by omega)
      have e : ((List.map iv (p :: ps)).drop 1).take (l - 1) = ps.map iv := by
        rw [List.map_cons, List.drop_one, List.tail_cons, List.take_of_length_le (by rw [List.length_map]; omega)]
      rw [e] at this
      exact this
    · apply F137b_ok
      unfold F137b
      rw [show (((l : Nat) : Int) == 0) = false by rw [beq_eq_false_iff_ne]; omega, cond_false]
      refine IdxA_nat (i := 0) (v := iv p) (hp.read h hF) (by rw [List.length_map, List.length_cons]; exact hl) rfl fun b hb hcell => ⟨_, hcell, _, rfl, ?_⟩
      have w1 : IntKind.wrap .i64 ((k : Int) + 1) = ((k + 1 : Nat) : Int) := wrap64_succ hk
      have w2 : IntKind.wrap .u64 ((k + 1 : Nat) : Int) = ((k + 1 : Nat) : Int) := IntWalk.u64_in _ (by omega)
      rw [w1, w2]
      refine ⟨by omega, ?_⟩
      refine SlV_nat (lo := 1) (hi := l) (mx := c) (by omega) hcap (Nat.le_refl _) ?_
      have wp : IntKind.wrap .u64 p = ((IntKind.wrap .u64 p).toNat : Int) := by
        rw [IntKind.wrap_u64]
        omega
      have hmod := Nat.mod_lt (IntKind.wrap .u64 p).toNat (show 0 < k + 1 by omega)
      refine ⟨?_, rfl⟩
      rw [wp, tmod_nat, wrap64_nat (by omega)]
      rfl
theorem dirsAt_length (ps : List Int) (i : Nat) : (dirsAt A ps i).length = A.dirs.length := by
  unfold dirsAt
  rw [List.length_append, AF.crashDirs_length, List.length_take, List.length_drop]
  omega
theorem dup_lists (hd : A.dirs[i]? = some d) (hx : q.qs[i]? = some x) (H : sat (listsR A q :: F) h) : sat (roS x.ba (d.base.flatMap nameC) :: listsR A q :: F) h := by
  have H2 := many_out H hd hx
  have H3 : sat (roS x.na (d.now.flatMap nameC) :: roS x.ba (d.base.flatMap nameC) :: roS x.pa (d.pend.flatMap opC) :: butP dirRP A.dirs q.qs i :: F) h := H2.open
  have H4 := sat.dup (roS_pers _ _) (H3.mv 1)
  have H5 : sat (dirRP d x :: butP dirRP A.dirs q.qs i :: roS x.ba (d.base.flatMap nameC) :: F) h := sat.shut (m := [roS x.na (d.now.flatMap nameC), roS x.ba (d.base.flatMap nameC), roS x.pa (d.pend.flatMap opC)]) (H4.ordT 5 [2, 0, 3, 4, 1])
  exact (many_back hd hx H5).mv 1
/-- All of a directory's cells are set. -/
theorem rdir_four {l' : AF.Names} {na : Option Addr} {nc : Nat} {K : Heap → Prop} (hq : q.qs.length = A.dirs.length) (hd : A.dirs[i]? = some d) (hx : q.qs[i]? = some x) (H : sat (roS na (l'.flatMap nameC) :: pt m (.cells (refC A q) 97 (0, 0)) :: filesR A q :: dirsR A q :: listsR A q :: F) h)
    (hK : ∀ h', refO m { A with dirs := A.dirs.set i ⟨d.name, l', l', []⟩ } { q with qs := q.qs.set i ⟨na, nc, na, nc, none, 0⟩ } F h' → K h') :
    IdxA q.da A.dirs.length (i : Int) 4 fun a11 => StC h (a11.add 0) (.string d.name) fun h_5 => StC h_5 (a11.add 1) (.slice na l'.length nc) fun h_6 => StC h_6 (a11.add 2) (.slice na l'.length nc) fun h_7 => StC h_7 (a11.add 3) (.slice none 0 0) K := by
  have hz : (A.dirs.zip q.qs)[i]? = some (d, x) := by rw [List.zip_eq_zipWith, List.getElem?_zipWith, hd, hx]
  have hzl : i < (A.dirs.zip q.qs).length := (List.getElem?_eq_some_iff.1 hz).1
  refine IdxC dirRC_len (by decide) (ownS_read (H.mv 3)) (zip_len hq) hz fun b hb _ => ?_
  have K0 := sat.dup (roS_pers _ _) H
  -- ro, ro, pt m, files, dirs, lists, F
  have K1 : sat (listsR A q :: roS na (l'.flatMap nameC) :: roS na (l'.flatMap nameC) :: dirsR A q :: pt m (.cells (refC A q) 97 (0, 0)) :: filesR A q :: F) h := K0.ordT 6 [5, 0, 1, 4, 2, 3]
  have K2 : sat (Many (List.zipWith dirRP (A.dirs.set i ⟨d.name, l', l', []⟩) (q.qs.set i ⟨na, nc, na, nc, none, 0⟩)) :: dirsR A q :: pt m (.cells (refC A q) 97 (0, 0)) :: filesR A q :: F) h := by
    have J := many_out K1 hd hx
    -- dirRP, but, ro, ro, dirs, pt, files
    have J2 := roS_none (J.drop)
    have J3 : sat (dirRP ⟨d.name, l', l', []⟩ ⟨na, nc, na, nc, none, 0⟩ :: butP dirRP A.dirs q.qs i :: dirsR A q :: pt m (.cells (refC A q) 97 (0, 0)) :: filesR A q :: F) h :=
      sat.shut (m := [roS na (l'.flatMap nameC), roS na (l'.flatMap nameC), roS none []]) (J2.ordT 7 [2, 3, 0, 1, 4, 5, 6])
    exact many_in2 (List.getElem?_eq_some_iff.1 hd).1 (List.getElem?_eq_some_iff.1 hx).1 J3
  have K3 := K2.mv 1
  unfold dirsR at K3
  rw [hb] at K3
  have set1 : ∀ {zs : List DP2} {p : DP2} {j : Nat} {v : Value} {h1 : Heap} {G : List HProp} (p' : DP2) {Kk : Heap → Prop}, sat (ownS 127 4 (some b) A.dirs.length q.dc (zs.flatMap dirRC) :: G) h1 → zs[i]? = some p → j < 4 → (dirRC p).set j v = dirRC p' →
      (∀ h2, sat (ownS 127 4 (some b) A.dirs.length q.dc ((zs.set i p').flatMap dirRC) :: G) h2 → Kk h2) → StC h1 ((b.add (i * 4)).add j) v Kk := by
    intro zs p j v h1 G p' Kk HH hp hj hc hKk
    have := ownC_set (K := Kk) p' dirRC_len HH hp hj hc hKk
    rw [addr_add0] at this
    exact this
  refine set1 (d, x) K3 hz (by decide) rfl fun h1 H1 => ?_
  rw [set_self hz] at H1
  refine set1 (⟨d.name, l', d.base, d.pend⟩, ⟨na, nc, x.ba, x.bc, x.pa, x.pc⟩) H1 hz (by decide) rfl fun h2 H2 => ?_
  refine set1 (⟨d.name, l', l', d.pend⟩, ⟨na, nc, na, nc, x.pa, x.pc⟩) H2 (set_get hz) (by decide) rfl fun h3 H3 => ?_
  rw [List.set_set] at H3
  refine set1 (⟨d.name, l', l', []⟩, ⟨na, nc, na, nc, none, 0⟩) H3 (set_get hz) (by decide) rfl fun h4 H4 => hK h4 ?_
  rw [List.set_set, zip_set, ← hb] at H4
  have H5 := H4.ordT 4 [2, 3, 0, 1]
  unfold refO filesR dirsR listsR refC at *
  dsimp only at *
  rw [List.length_set]
  exact H5
end

end Go.Proofs.YticjjdhaikbdaaaGreat

namespace Go.Proofs.YticjjdhaikbdaaaGreat
open Go Go.RowKit
set_option linter.unusedVariables false
set_option linter.unusedSimpArgs false

section
variable {m i : Nat} {A : AF.FS} {q : RefQ} {d d' : AF.Dir} {x x' : RDir} {F : List HProp} {h : Heap} {dir name : ByteArray}
theorem fits_op {n : Nat} {l : AF.Names} {o : AF.Op} (h : AF.Fits n l o) : opFit l o := by
  cases o with
  | create a f => trivial
  | rename a b => exact h.2.2
  | remove a => trivial
theorem extract_cut {b : List Nat} {k : Nat} (h8 : B8 b) (hk : k ≤ b.length) : (ofN b).extract (0 : Int).toNat ((k : Nat) : Int).toNat = ofN (b.take k) := by
  apply sb_inj
  rw [sb_extract, sb_ofN h8, sb_ofN (h8.take k)]
  simp
theorem F81_spec {ps : List Int} {pa : Option Addr} {pl pc : Nat} (W : A.WF) (hp : Pks F ps pa pl pc) (hs : A.steps < 1099511627776) (H : sat (refP m A :: F) h) :
    CallsH Tryz.prog 81 [ptrV m, .slice pa pl pc] h fun v h' => v = .tuple #[] ∧ sat (refP m (A.crash ps) :: F) h' := by
  apply F81b_ok
  unfold F81b
  have hfew := W.few
  have W2 := W.crash ps
  simp only [NN'_some']
  obtain ⟨q0, hq0, H0⟩ := refP_open H
  let At : Nat → AF.FS := fun i => { A with dirs := dirsAt A ps i }
  have hAt0 : At 0 = A := by
    show ({ A with dirs := (AF.crashDirs (A.dirs.take 0) ps).1 ++ A.dirs.drop 0 } : AF.FS) = A
    rfl
  refine ⟨fun st hh => ∃ (i : Nat) (a : Option Addr) (l c : Nat) (q : RefQ), st = (⟨a, l, c⟩, (i : Int)) ∧ i ≤ A.dirs.length ∧ Pks F (picksAt A ps i) a l c ∧ q.qs.length = (At i).dirs.length ∧ refO m (At i) q F hh,
    fun st _ => ((A.dirs.length : Int) - st.2).toNat, ⟨0, pa, pl, pc, q0, rfl, Nat.zero_le _, hp, hq0, H0⟩, ?_⟩
  rintro st h1 ⟨i, a, l, c, q, rfl, hi, hpk, hq, H1⟩
  have hdl : (At i).dirs.length = A.dirs.length := dirsAt_length ps i
  refine LdSl (a := q.da) (l := (At i).dirs.length) (m := q.dc) H1 rfl ?_
  dsimp only
  rw [hdl]
  by_cases hlt : i < A.dirs.length
  · rw [decide_eq_true (show ((i : Int) < (A.dirs.length : Int)) by omega), cond_true]
    obtain ⟨d, hdi⟩ : ∃ d, A.dirs[i]? = some d := ⟨_, List.getElem?_eq_getElem hlt⟩
    have w := W.each d (List.mem_of_getElem? hdi)
    have hpl := w.pend
    have hd : (At i).dirs[i]? = some d := dirsAt_get hdi
    obtain ⟨x, hx, _⟩ := rdir_read hq hd (H1.mv 3 |>.mv 3)
    refine LdSl (a := q.da) (l := (At i).dirs.length) (m := q.dc) H1 rfl ?_
    refine dirx_read hq hd hx H1 fun b hc => CSl (hc 3 _ rfl) ?_
    obtain ⟨a2, l2, c2, hpk2, hcall⟩ := F137_pks (k := d.pend.length) hpk (by omega)
    refine (hcall h1 (H1.rest 4)).mono ?_
    rintro v h2 ⟨rfl, rfl⟩
    refine ⟨_, a2, l2, c2, rfl, ?_⟩
    refine LdSl (a := q.da) (l := (At i).dirs.length) (m := q.dc) H1 rfl ?_
    refine dirx_read hq hd hx H1 fun b hc => CSl (hc 2 _ rfl) ?_
    have hple := AF.pick_le (picksAt A ps i) d.pend.length
    have hnext := dirsAt_next (ps := ps) hdi
    generalize hk : (AF.pick (picksAt A ps i) d.pend.length).1 = k at hple hnext
    have H2 : sat (roS x.ba (d.base.flatMap nameC) :: pt m (.cells (refC (At i) q) 97 (0, 0)) :: filesR (At i) q :: dirsR (At i) q :: listsR (At i) q :: F) h2 := (dup_lists hd hx (H1.mv 3)).ordT 5 [0, 2, 3, 4, 1]
    refine ⟨fun st hh => ∃ (j : Nat) (na : Option Addr) (nc : Nat), st = (⟨na, (AF.play d.base (d.pend.take j)).length, nc⟩, (j : Int)) ∧ j ≤ k ∧ sat (roS na ((AF.play d.base (d.pend.take j)).flatMap nameC) :: pt m (.cells (refC (At i) q) 97 (0, 0)) :: filesR (At i) q :: dirsR (At i) q :: listsR (At i) q :: F) hh,
      fun st _ => ((k : Int) - st.2).toNat, ⟨0, x.ba, x.bc, rfl, Nat.zero_le _, H2⟩, ?_⟩
    rintro st h3 ⟨j, na, nc, rfl, hj, H3⟩
    have R3 := H3.drop
    dsimp only
    by_cases hjk : j < k
    · rw [decide_eq_true (show ((j : Int) < (k : Int)) by omega), cond_true]
      obtain ⟨o, ho⟩ : ∃ o, d.pend[j]? = some o := ⟨_, List.getElem?_eq_getElem (by omega)⟩
      obtain ⟨o0, o1, o2, o3, hoC⟩ := opC_ex o
      refine LdSl (a := q.da) (l := (At i).dirs.length) (m := q.dc) R3 rfl ?_
      refine dirx_read hq hd hx R3 fun b hc => CSl (hc 3 _ rfl) ?_
      refine IdxC opC_len (by decide) (lists_read hq hd hx R3).2.2 rfl ho fun b hb hc => ⟨_, hc 0 _ (by rw [hoC]; rfl), _, hc 1 _ (by rw [hoC]; rfl), _, hc 2 _ (by rw [hoC]; rfl), _, hc 3 _ (by rw [hoC]; rfl), _, _, _, _, rfl, ?_⟩
      obtain ⟨hok, hfit⟩ := w.runs.at j ho
      have e118 : Value.agg #[.int .i64 o0, .string o1, .string o2, .int .i64 o3] = .agg (opC o).toArray := by rw [hoC]
      rw [e118]
      have hfl := hok.few
      refine (F138_spec hok.up (fits_op hfit) (fun h' hh => roS_read hh) rfl (by omega) H3).mono ?_
      rintro v h4 ⟨na2, nc2, rfl, H4⟩
      rw [DSl_slice, wrap64_succ (by omega)]
      have e : AF.play d.base (d.pend.take (j + 1)) = AF.does (AF.play d.base (d.pend.take j)) o := by
        rw [List.take_add_one, ho]
        exact AF.play_snoc _ _ _
      rw [← e] at H4 ⊢
      exact ⟨⟨j + 1, na2, nc2, rfl, by omega, ((roS_of H4).mv 1).drop⟩, by show ((k : Int) - ((j + 1 : Nat) : Int)).toNat < ((k : Int) - (j : Int)).toNat; omega⟩
    · rw [decide_eq_false (by omega), cond_false]
      have ejk : j = k := by omega
      subst ejk
      refine LdSl (a := q.da) (l := (At i).dirs.length) (m := q.dc) R3 rfl ?_
      refine LdSl (a := q.da) (l := (At i).dirs.length) (m := q.dc) R3 rfl ?_
      refine dirx_read hq hd hx R3 fun b hc => CStr (hc 0 _ rfl) ?_
      refine rdir_four (A := At i) (q := q) hq hd hx H3 fun h4 H4 => ?_
      rw [wrap64_succ (by omega)]
      have eA : ({ At i with dirs := (At i).dirs.set i ⟨d.name, AF.play d.base (d.pend.take j), AF.play d.base (d.pend.take j), []⟩ } : AF.FS) = At (i + 1) := by
        show ({ A with dirs := (dirsAt A ps i).set i _ } : AF.FS) = { A with dirs := dirsAt A ps (i + 1) }
        rw [hnext.1]
        rfl
      unfold refO at H4
      rw [eA] at H4
      refine ⟨⟨i + 1, a2, l2, c2, _, rfl, by omega, by rw [hnext.2]; exact hpk2, ?_, H4⟩, by show ((A.dirs.length : Int) - ((i + 1 : Nat) : Int)).toNat < ((A.dirs.length : Int) - (i : Int)).toNat; omega⟩
      show (q.qs.set i _).length = _
      rw [List.length_set, hq, hdl]
      exact (dirsAt_length ps (i + 1)).symm
  · rw [decide_eq_false (by omega), cond_false]
    have ei : i = A.dirs.length := by omega
    subst ei
    -- the files
    have hD : (A.crash ps).dirs = dirsAt A ps A.dirs.length := crash_dirs ps
    let xsAt : Nat → List Nat := fun j => ((A.crash ps).dirs.take j).flatMap fun (e : AF.Dir) => e.now.map (·.2)
    let Bt : List Nat → AF.FS := fun xs => { A with dirs := (A.crash ps).dirs, files := (filesAt A ps xs).1 }
    have hB0 : At A.dirs.length = Bt [] := by
      show ({ A with dirs := dirsAt A ps A.dirs.length } : AF.FS) = { A with dirs := (A.crash ps).dirs, files := (filesAt A ps []).1 }
      rw [hD]
      rfl
    have hDl : (A.crash ps).dirs.length = A.dirs.length := by rw [hD, dirsAt_length]
    rw [hB0] at H1 hq
    have hxs0 : xsAt 0 = [] := rfl
    refine ⟨fun st hh => ∃ (j : Nat) (a : Option Addr) (l c : Nat), st = (⟨a, l, c⟩, (j : Int)) ∧ j ≤ A.dirs.length ∧ Pks F (filesAt A ps (xsAt j)).2 a l c ∧ refO m (Bt (xsAt j)) q F hh,
      fun st _ => ((A.dirs.length : Int) - st.2).toNat, ⟨0, a, l, c, rfl, Nat.zero_le _, hpk, H1⟩, ?_⟩
    rintro st h2 ⟨j, a, l, c, rfl, hj, hpk, H2⟩
    have hql : ∀ xs, q.qs.length = (Bt xs).dirs.length := fun xs => hq
    refine LdSl (a := q.da) (l := (Bt (xsAt j)).dirs.length) (m := q.dc) H2 rfl ?_
    dsimp only
    by_cases hlt2 : j < A.dirs.length
    · rw [decide_eq_true (show ((j : Int) < (((A.crash ps).dirs.length : Nat) : Int)) by omega), cond_true]
      obtain ⟨d, hdc⟩ : ∃ d, (A.crash ps).dirs[j]? = some d := ⟨_, List.getElem?_eq_getElem (by omega)⟩
      have hok := (W2.each d (List.mem_of_getElem? hdc)).ok
      have hnl := hok.few
      obtain ⟨x, hx⟩ : ∃ x, q.qs[j]? = some x := ⟨_, List.getElem?_eq_getElem (by rw [hq]; show j < (A.crash ps).dirs.length; omega)⟩
      have hd : ∀ xs, (Bt xs).dirs[j]? = some d := fun xs => hdc
      have hsucc : xsAt (j + 1) = xsAt j ++ d.now.map (·.2) := by
        show ((A.crash ps).dirs.take (j + 1)).flatMap _ = _
        rw [List.take_add_one, hdc, List.flatMap_append]
        show _ ++ (d.now.map (fun (p : ByteArray × Nat) => p.2) ++ []) = _
        rw [List.append_nil]
      let ysAt : Nat → List Nat := fun n => xsAt j ++ (d.now.take n).map (·.2)
      have hys0 : ysAt 0 = xsAt j := by show xsAt j ++ [] = _; rw [List.append_nil]
      refine ⟨fun st hh => ∃ (n : Nat) (a : Option Addr) (l c : Nat), st = (⟨a, l, c⟩, (n : Int)) ∧ n ≤ d.now.length ∧ Pks F (filesAt A ps (ysAt n)).2 a l c ∧ refO m (Bt (ysAt n)) q F hh,
        fun st _ => ((d.now.length : Int) - st.2).toNat, ⟨0, a, l, c, rfl, Nat.zero_le _, by rw [hys0]; exact hpk, by rw [hys0]; exact H2⟩, ?_⟩
      rintro st h3 ⟨n, a, l, c, rfl, hn, hpk, H3⟩
      refine LdSl (a := q.da) (l := (Bt (ysAt n)).dirs.length) (m := q.dc) H3 rfl ?_
      refine dirx_read (hql _) (hd _) hx H3 fun b hc => CSl (hc 1 _ rfl) ?_
      dsimp only
      by_cases hlt3 : n < d.now.length
      · rw [decide_eq_true (show ((n : Int) < (d.now.length : Int)) by omega), cond_true]
        obtain ⟨p, hpn⟩ : ∃ p, d.now[n]? = some p := ⟨_, List.getElem?_eq_getElem hlt3⟩
        have hpf := (hok.each p (List.mem_of_getElem? hpn)).1
        have hcl : (A.crash ps).files.length = A.files.length := by rw [crash_files, filesAt_length]
        have hfl := filesAt_length (A := A) ps (ysAt n)
        obtain ⟨y, hy⟩ : ∃ y, (filesAt A ps (ysAt n)).1[p.2]? = some y := ⟨_, List.getElem?_eq_getElem (by omega)⟩
        have hyo := filesAt_ok W ps (ysAt n) y (List.mem_of_getElem? hy)
        have hyl := ofN_size hyo.2.2
        have hy2 : (Bt (ysAt n)).files[p.2]? = some y := hy
        have hnx := filesAt_next hy
        have hys : ysAt (n + 1) = ysAt n ++ [p.2] := by
          show xsAt j ++ (d.now.take (n + 1)).map (·.2) = xsAt j ++ (d.now.take n).map (·.2) ++ [p.2]
          rw [List.take_add_one, hpn, List.map_append, List.append_assoc]
          rfl
        rw [← hys] at hnx
        have h1 := hyo.1
        have h2' := hyo.2.1
        refine LdSl (a := q.da) (l := (Bt (ysAt n)).dirs.length) (m := q.dc) H3 rfl ?_
        refine dirx_read (hql _) (hd _) hx H3 fun b hc => CSl (hc 1 _ rfl) ?_
        refine IdxC nameC_len (by decide) (lists_read (hql _) (hd _) hx H3).1 rfl hpn fun b hb hc => CInt (hc 1 _ rfl) ?_
        have files : ∀ {h' : Heap} {B : AF.FS} {G : List HProp} {K : Option Addr → Nat → Nat → Prop}, refO m B q G h' → K q.fa B.files.length q.fc → Ld h' ((⟨m, 0, none⟩ : Addr).add 4) fun v => DSl v K := fun HH hK => LdSl (a := q.fa) (m := q.fc) HH rfl hK
        refine files H3 ?_
        refine rfile_read hy2 H3 fun b e0 e1 => CStr e0 ?_
        refine files H3 ?_
        refine rfile_read hy2 H3 fun b e0 e1 => CInt e1 ?_
        have wn : IntKind.wrap .i64 (((ofN y.b).size : Int) - (y.safe : Int)) = ((y.b.length - y.safe : Nat) : Int) := by rw [hyl, IntWalk.i64_in _ (by omega)]; omega
        rw [wn]
        obtain ⟨a2, l2, c2, hpk2, hcall⟩ := F137_pks (k := y.b.length - y.safe) hpk (by omega)
        refine ⟨_, hcall h3 (H3.rest 4), ?_⟩
        refine ⟨_, a2, l2, c2, rfl, ?_⟩
        have hkle := AF.pick_le (filesAt A ps (ysAt n)).2 (y.b.length - y.safe)
        generalize hk : (AF.pick (filesAt A ps (ysAt n)).2 (y.b.length - y.safe)).1 = k at hkle hnx
        refine files H3 ?_
        refine files H3 ?_
        refine rfile_read hy2 H3 fun b e0 e1 => CStr e0 ?_
        refine files H3 ?_
        refine rfile_read hy2 H3 fun b e0 e1 => CInt e1 ?_
        have wk : IntKind.wrap .i64 ((y.safe : Int) + (k : Int)) = ((y.safe + k : Nat) : Int) := by rw [IntWalk.i64_in _ (by omega)]; omega
        rw [wk]
        refine ⟨by omega, by omega, by rw [hyl]; omega, ?_⟩
        rw [extract_cut hyo.2.2 (by omega)]
        refine rfile_set (A := Bt (ysAt n)) (m := m) (y' := ⟨y.b.take (y.safe + k), y.safe⟩) hy2 (j := 0) (by decide) rfl H3 fun h4 H4 => ?_
        have hy4 : ({ Bt (ysAt n) with files := (Bt (ysAt n)).files.set p.2 ⟨y.b.take (y.safe + k), y.safe⟩ } : AF.FS).files[p.2]? = some ⟨y.b.take (y.safe + k), y.safe⟩ := set_get hy2
        generalize hB4 : ({ Bt (ysAt n) with files := (Bt (ysAt n)).files.set p.2 ⟨y.b.take (y.safe + k), y.safe⟩ } : AF.FS) = B4 at H4 hy4
        refine files H4 ?_
        refine files H4 ?_
        refine rfile_read hy4 H4 fun b e0 e1 => CStr e0 ?_
        have t8 : B8 (y.b.take (y.safe + k)) := hyo.2.2.take _
        have tl : (ofN (y.b.take (y.safe + k))).size = y.safe + k := by rw [ofN_size t8, List.length_take]; omega
        rw [tl]
        refine rfile_set (A := B4) (m := m) (y' := ⟨y.b.take (y.safe + k), y.safe + k⟩) hy4 (j := 1) (by decide) rfl H4 fun h5 H5 => ?_
        rw [wrap64_succ (by omega)]
        have eB : ({ B4 with files := B4.files.set p.2 ⟨y.b.take (y.safe + k), y.safe + k⟩ } : AF.FS) = Bt (ysAt (n + 1)) := by
          rw [← hB4]
          show ({ A with dirs := (A.crash ps).dirs, files := ((filesAt A ps (ysAt n)).1.set p.2 _).set p.2 _ } : AF.FS) = { A with dirs := (A.crash ps).dirs, files := (filesAt A ps (ysAt (n + 1))).1 }
          rw [List.set_set, hnx]
        unfold refO at H5
        rw [eB] at H5
        refine ⟨⟨n + 1, a2, l2, c2, rfl, by omega, ?_, H5⟩, by show ((d.now.length : Int) - ((n + 1 : Nat) : Int)).toNat < ((d.now.length : Int) - (n : Int)).toNat; omega⟩
        rw [hnx]
        exact hpk2
      · rw [decide_eq_false (by omega), cond_false, wrap64_succ (by omega)]
        have en : ysAt n = xsAt (j + 1) := by
          rw [hsucc]
          show xsAt j ++ (d.now.take n).map (·.2) = _
          rw [List.take_of_length_le (by omega)]
        rw [en] at H3 hpk
        exact ⟨⟨j + 1, a, l, c, rfl, by omega, hpk, H3⟩, by show ((A.dirs.length : Int) - ((j + 1 : Nat) : Int)).toNat < ((A.dirs.length : Int) - (j : Int)).toNat; omega⟩
    · rw [decide_eq_false (show ¬ ((j : Int) < (((A.crash ps).dirs.length : Nat) : Int)) by omega), cond_false]
      have ej : xsAt j = (A.crash ps).idx := by
        show ((A.crash ps).dirs.take j).flatMap _ = (A.crash ps).dirs.flatMap _
        rw [List.take_of_length_le (by omega)]
      rw [ej] at H2
      rw [addr_add0]
      have eC : ({ { Bt (A.crash ps).idx with off := false } with fuse := none } : AF.FS) = A.crash ps := by
        show ({ A with dirs := (A.crash ps).dirs, files := (filesAt A ps (A.crash ps).idx).1, off := false, fuse := none } : AF.FS) = A.crash ps
        rw [← crash_files]
        rfl
      refine StCC (c' := refC { Bt (A.crash ps).idx with off := false } q) H2 (by show 3 < 6; decide) rfl fun h5 H5 => ?_
      rw [addr_add0]
      refine StCC (c' := refC { { Bt (A.crash ps).idx with off := false } with fuse := none } q) H5 (by show 2 < 6; decide) rfl fun h6 H6 => ?_
      refine ⟨by trivial, ?_⟩
      have K : sat (refP m ({ { Bt (A.crash ps).idx with off := false } with fuse := none } : AF.FS) :: F) h6 := refP_shut (q := q) hq H6
      rw [eC] at K
      exact K
end

end Go.Proofs.YticjjdhaikbdaaaGreat

namespace Go.Proofs.YticjjdhaikbdaaaGreat
open Go Go.RowKit
set_option linter.unusedVariables false
set_option linter.unusedSimpArgs false

namespace AF
def FS.act (A : FS) (k : Int) (dir name b : ByteArray) (n : Int) (turn : Nat) (ps : List Int) : FS × Nat :=
  if k = 0 then A.mkdir dir else if k = 1 then A.create dir name else if k = 2 then A.append dir name (sb b) else if k = 3 then A.sync dir name else if k = 4 then A.syncDir dir else
  if k = 5 then A.rename dir name b else if k = 6 then A.remove dir name else if k = 7 then A.setRoom n else if k = 8 then A.setFuse n else if k = 9 then (A.crash ps, 0) else
  if k = 10 then A.spoil dir name n turn else if k = 11 then A.plant dir name (sb b) else (A, 0)
theorem FS.act_cases {P : FS × Nat → Prop} {A : FS} {k n : Int} {dir name b : ByteArray} {turn : Nat} {ps : List Int} (h0 : P (A.mkdir dir)) (h1 : P (A.create dir name)) (h2 : P (A.append dir name (sb b))) (h3 : P (A.sync dir name)) (h4 : P (A.syncDir dir)) (h5 : P (A.rename dir name b)) (h6 : P (A.remove dir name)) (h7 : P (A.setRoom n)) (h8 : P (A.setFuse n)) (h9 : P ((A.crash ps, 0))) (h10 : P (A.spoil dir name n turn)) (h11 : P (A.plant dir name (sb b))) (h12 : P ((A, 0))) : P (A.act k dir name b n turn ps) := by
  unfold FS.act
  by_cases k0 : k = 0
  · rw [if_pos k0]; exact h0
  rw [if_neg k0]
  by_cases k1 : k = 1
  · rw [if_pos k1]; exact h1
  rw [if_neg k1]
  by_cases k2 : k = 2
  · rw [if_pos k2]; exact h2
  rw [if_neg k2]
  by_cases k3 : k = 3
  · rw [if_pos k3]; exact h3
  rw [if_neg k3]
  by_cases k4 : k = 4
  · rw [if_pos k4]; exact h4
  rw [if_neg k4]
  by_cases k5 : k = 5
  · rw [if_pos k5]; exact h5
  rw [if_neg k5]
  by_cases k6 : k = 6
  · rw [if_pos k6]; exact h6
  rw [if_neg k6]
  by_cases k7 : k = 7
  · rw [if_pos k7]; exact h7
  rw [if_neg k7]
  by_cases k8 : k = 8
  · rw [if_pos k8]; exact h8
  rw [if_neg k8]
  by_cases k9 : k = 9
  · rw [if_pos k9]; exact h9
  rw [if_neg k9]
  by_cases k10 : k = 10
  · rw [if_pos k10]; exact h10
  rw [if_neg k10]
  by_cases k11 : k = 11
  · rw [if_pos k11]; exact h11
  rw [if_neg k11]
  exact h12
theorem FS.WF.act {A : FS} (W : A.WF) {k n : Int} {dir name b : ByteArray} {turn : Nat} {ps : List Int} (hn : n ≤ 9223372036854775807) (ht : turn < 256) : (A.act k dir name b n turn ps).1.WF :=
  FS.act_cases (P := fun r => r.1.WF) (W.mkdir _) (W.create _ _) (W.append _ _ (sb_B8 b)) (W.sync _ _) (W.syncDir _) (W.rename _ _ _) (W.remove _ _) (W.setRoom _) (W.setFuse hn) (W.crash _) (W.spoil _ _ _ ht) (W.plant _ _ (sb_B8 b)) W
/-- Steps and files grow by one at most. -/
def Grown1 (A B : FS) : Prop := B.steps ≤ A.steps + 1 ∧ B.files.length ≤ A.files.length + 1
theorem Grown1.same (A : FS) : Grown1 A A := ⟨Nat.le_succ _, Nat.le_succ _⟩
theorem Grown1.step {A : FS} {g : FS → FS} (h1 : (g A.stepOn).steps = A.steps + 1) (h2 : (g A.stepOn).files.length ≤ A.files.length + 1) : Grown1 A (A.step g).1 := by
  unfold FS.step
  split
  · exact Grown1.same A
  · exact ⟨by rw [h1]; exact Nat.le_refl _, h2⟩
theorem Grown1.act {A : FS} {k n : Int} {dir name b : ByteArray} {turn : Nat} {ps : List Int} : Grown1 A (A.act k dir name b n turn ps).1 := by
  have S := Grown1.same A
  have F0 : ∀ (i : Nat) (g : File → File), (A.stepOn.setFile i g).files.length ≤ A.files.length + 1 := fun i g => by
    show (A.files.modify i g).length ≤ _
    rw [List.length_modify]
    exact Nat.le_succ _
  refine FS.act_cases (P := fun r => Grown1 A r.1) ?_ ?_ ?_ ?_ ?_ ?_ ?_ ?_ ?_ ?_ ?_ ?_ ?_
  · unfold FS.mkdir
    split
    · exact S
    · split
      · split
        · exact S
        · exact .step rfl (Nat.le_succ _)
      · exact S
  · unfold FS.create
    split
    · exact S
    · split
      · exact S
      · split
        · exact S
        · exact .step rfl (by show (A.files ++ [_]).length ≤ _; rw [List.length_append]; exact Nat.le_refl _)
  · unfold FS.append
    split
    · exact S
    · split
      · exact S
      · split
        · exact S
        · exact .step rfl (F0 _ _)
  · unfold FS.sync
    split
    · exact S
    · exact .step rfl (F0 _ _)
  · unfold FS.syncDir
    split
    · exact S
    · exact .step rfl (Nat.le_succ _)
  · unfold FS.rename
    split
    · exact S
    · split
      · exact S
      · exact .step rfl (Nat.le_succ _)
  · unfold FS.remove
    split
    · exact S
    · exact .step rfl (Nat.le_succ _)
  · unfold FS.setRoom
    split <;> exact S
  · unfold FS.setFuse
    split <;> exact S
  · exact ⟨Nat.le_succ _, by show (crashFiles _ _ _).1.length ≤ _; rw [crashFiles_length]; exact Nat.le_succ _⟩
  · unfold FS.spoil
    split
    · exact S
    · split
      · exact S
      · split
        · exact S
        · exact ⟨Nat.le_succ _, by show (A.files.modify _ _).length ≤ _; rw [List.length_modify]; exact Nat.le_succ _⟩
  · unfold FS.plant
    split
    · exact S
    · split
      · exact S
      · split
        · exact S
        · exact ⟨Nat.le_succ _, by show (A.files ++ [_]).length ≤ _; rw [List.length_append]; exact Nat.le_refl _⟩
  · exact S
end AF
abbrev actV (k : Int) (dir name b : ByteArray) (n : Int) (turn : Nat) (pa : Option Addr) (pl pc : Nat) : Array Value := #[.int .i64 k, .string dir, .string name, .string b, .int .i64 n, .int .u8 (turn : Int), .slice pa pl pc]
section
variable {f m : Nat} {A : AF.FS} {F : List HProp} {h : Heap} {k n : Int} {dir name b : ByteArray} {turn : Nat} {ps : List Int} {pa : Option Addr} {pl pc : Nat}
theorem Pks.cons {B : HProp} (hp : Pks F ps pa pl pc) : Pks (B :: F) ps pa pl pc := ⟨hp.len, hp.cap, fun h' hh => hp.read h' hh.drop⟩
theorem keq {k c : Int} (h : k = c) : (k == c) = true := by rw [h]; exact beq_self_eq_true c
theorem kne {k c : Int} (h : ¬ k = c) : (k == c) = false := by rw [beq_eq_false_iff_ne]; exact h
/-- The program's. -/
theorem F24_spec (W : A.WF) (hs : A.steps < 1099511627776) (hd : dir.size < 4611686018427387904) (hn : name.size < 4611686018427387904) (hb : b.size < 4611686018427387904) (ht : turn < 256) (hni : n ≤ 9223372036854775807) (hp : Pks F ps pa pl pc) (H : sat (fsP f A :: F) h) :
    CallsH Tryz.prog 24 [ptrV f, .agg (actV k dir name b n turn pa pl pc)] h fun v h' => v = .int .i64 ((A.act k dir name b n turn ps).2 : Int) ∧ sat (fsP f (A.act k dir name b n turn ps).1 :: F) h' := by
  apply F24b_ok
  unfold F24b AF.FS.act
  refine Al_sat H fun b0 h1 H0 => ?_
  have H1 := H0.mv 1
  have HB : sat (pt b0 (.cells (actV k dir name b n turn pa pl pc) 34 (0, 0)) :: fsP f A :: F) h1 := H0
  have done : ∀ {B : AF.FS} {h' : Heap}, sat (fsP f B :: pt b0 (.cells (actV k dir name b n turn pa pl pc) 34 (0, 0)) :: F) h' → sat (fsP f B :: F) h' := fun H' => H'.ordT 2 [0]
  refine LdInt (x := k) HB rfl ?_
  by_cases k0 : k = 0
  · rw [keq k0, cond_true, if_pos k0]
    refine LdStr HB rfl ?_
    refine (F74_spec W hs hd H1).mono ?_
    rintro v h2 ⟨rfl, H2⟩
    rw [DI_int]
    exact ⟨rfl, done H2⟩
  rw [kne k0, cond_false, if_neg k0]
  by_cases k1 : k = 1
  · rw [keq k1, cond_true, if_pos k1]
    refine LdStr HB rfl (LdStr HB rfl ?_)
    refine (F49_spec W hs hd hn H1).mono ?_
    rintro v h2 ⟨rfl, H2⟩
    rw [DI_int]
    exact ⟨rfl, done H2⟩
  rw [kne k1, cond_false, if_neg k1]
  by_cases k2 : k = 2
  · rw [keq k2, cond_true, if_pos k2]
    refine LdStr HB rfl ?_
    have hbl := sb_length b
    refine bytesOfB (by kernel_rfl) u31 (by kernel_rfl) (show b.size ≤ maxLen by unfold maxLen; omega) HB fun xb xc h2 H2 => ?_
    rw [DSl_slice]
    refine LdStr (H2.mv 1) rfl (LdStr (H2.mv 1) rfl ?_)
    refine (F51_spec (bs := sb b) W hs hd hn (F := ownS 5 1 (some ⟨xb, 0, none⟩) b.size xc ((sb b).map nv) :: pt b0 (.cells (actV k dir name b n turn pa pl pc) 34 (0, 0)) :: F) (fun h' hh => ownS_read hh) hbl hb (H2.mv 2)).mono ?_
    rintro v h3 ⟨rfl, H3⟩
    rw [DI_int]
    refine ⟨fun st hh => ∃ (i : Nat) (ns : List Nat), st = (i : Int) ∧ i ≤ b.size ∧ ns.length = b.size ∧ B8 ns ∧ sat (ownS 5 1 (some ⟨xb, 0, none⟩) b.size xc (ns.map nv) :: fsP f (A.append dir name (sb b)).1 :: pt b0 (.cells (actV k dir name b n turn pa pl pc) 34 (0, 0)) :: F) hh,
      fun st _ => ((b.size : Int) - st).toNat, ⟨0, sb b, rfl, Nat.zero_le _, hbl, sb_B8 b, H3.mv 1⟩, ?_⟩
    rintro st h4 ⟨i, ns, rfl, hi, hnl, hn8, H4⟩
    by_cases hlt : i < b.size
    · rw [decide_eq_true (show ((i : Int) < (b.size : Int)) by omega), cond_true]
      obtain ⟨x, hx⟩ : ∃ x, ns[i]? = some x := ⟨_, List.getElem?_eq_getElem (by omega)⟩
      have hx8 := hn8 x (List.mem_of_getElem? hx)
      have hget : (ns.map nv)[i]? = some (nv x) := by rw [List.getElem?_map, hx]; rfl
      have hml : (ns.map nv).length = b.size := by rw [List.length_map, hnl]
      refine IdxA_nat (ownS_read H4) hml hget fun b1 hb1 hc => ⟨_, hc, ?_⟩
      show DI .u8 (.int .u8 (x : Int)) _
      rw [DI_int]
      refine IdxA_nat (ownS_read H4) hml hget fun b2 hb2 hc2 => ?_
      simp only [Option.some.injEq] at hb2
      subst hb2
      rw [show (255 : Int) = ((255 : Nat) : Int) from rfl, xor8 hx8 (by decide), addr_add0]
      refine ownS_set H4 (by rw [hml]; exact hlt) fun h5 H5 => ?_
      rw [show (ns.map nv).set i (.int .u8 ((x ^^^ 255 : Nat) : Int)) = (ns.set i (x ^^^ 255)).map nv from (List.map_set ..).symm] at H5
      rw [wrap64_succ (by omega)]
      refine ⟨⟨i + 1, ns.set i (x ^^^ 255), rfl, by omega, by rw [List.length_set, hnl], ?_, H5⟩, ?_⟩
      · intro n hn
        rcases List.mem_or_eq_of_mem_set hn with hn | rfl
        · exact hn8 n hn
        · exact Nat.xor_lt_two_pow (n := 8) hx8 (by decide)
      · show ((b.size : Int) - ((i + 1 : Nat) : Int)).toNat < ((b.size : Int) - (i : Int)).toNat
        omega
    · rw [decide_eq_false (show ¬ ((i : Int) < (b.size : Int)) by omega), cond_false]
      exact ⟨rfl, done H4.drop⟩
  rw [kne k2, cond_false, if_neg k2]
  by_cases k3 : k = 3
  · rw [keq k3, cond_true, if_pos k3]
    refine LdStr HB rfl (LdStr HB rfl ?_)
    refine (F53_spec W hs hd hn H1).mono ?_
    rintro v h2 ⟨rfl, H2⟩
    rw [DI_int]
    exact ⟨rfl, done H2⟩
  rw [kne k3, cond_false, if_neg k3]
  by_cases k4 : k = 4
  · rw [keq k4, cond_true, if_pos k4]
    refine LdStr HB rfl ?_
    refine (F57_spec W hs hd H1).mono ?_
    rintro v h2 ⟨rfl, H2⟩
    rw [DI_int]
    exact ⟨rfl, done H2⟩
  rw [kne k4, cond_false, if_neg k4]
  by_cases k5 : k = 5
  · rw [keq k5, cond_true, if_pos k5]
    refine LdStr HB rfl (LdStr HB rfl (LdStr HB rfl ?_))
    refine (F55_spec W hs hd hn hb H1).mono ?_
    rintro v h2 ⟨rfl, H2⟩
    rw [DI_int]
    exact ⟨rfl, done H2⟩
  rw [kne k5, cond_false, if_neg k5]
  by_cases k6 : k = 6
  · rw [keq k6, cond_true, if_pos k6]
    refine LdStr HB rfl (LdStr HB rfl ?_)
    refine (F60_spec W hs hd hn H1).mono ?_
    rintro v h2 ⟨rfl, H2⟩
    rw [DI_int]
    exact ⟨rfl, done H2⟩
  rw [kne k6, cond_false, if_neg k6]
  by_cases k7 : k = 7
  · rw [keq k7, cond_true, if_pos k7]
    refine LdInt (x := n) HB rfl ?_
    refine (F76_spec H1).mono ?_
    rintro v h2 ⟨rfl, H2⟩
    rw [DI_int]
    exact ⟨rfl, done H2⟩
  rw [kne k7, cond_false, if_neg k7]
  by_cases k8 : k = 8
  · rw [keq k8, cond_true, if_pos k8]
    refine LdInt (x := n) HB rfl ?_
    refine (F37_spec H1).mono ?_
    rintro v h2 ⟨rfl, H2⟩
    rw [DI_int]
    exact ⟨rfl, done H2⟩
  rw [kne k8, cond_false, if_neg k8]
  by_cases k9 : k = 9
  · rw [keq k9, cond_true, if_pos k9]
    refine LdSl (a := pa) (l := pl) (m := pc) HB rfl ?_
    refine (F38_spec W hp.cons hs H1).mono ?_
    rintro v h2 ⟨rfl, H2⟩
    rw [DI_int]
    exact ⟨rfl, done H2⟩
  rw [kne k9, cond_false, if_neg k9]
  by_cases k10 : k = 10
  · rw [keq k10, cond_true, if_pos k10]
    refine LdStr HB rfl (LdStr HB rfl ?_)
    refine LdInt (x := n) HB rfl ?_
    refine LdInt (x := (turn : Int)) HB rfl ?_
    refine (F77_spec W ht hd hn hni H1).mono ?_
    rintro v h2 ⟨rfl, H2⟩
    rw [DI_int]
    exact ⟨rfl, done H2⟩
  rw [kne k10, cond_false, if_neg k10]
  by_cases k11 : k = 11
  · rw [keq k11, cond_true, if_pos k11]
    refine LdStr HB rfl (LdStr HB rfl (LdStr HB rfl ?_))
    refine bytesOfB (by kernel_rfl) u31 (by kernel_rfl) (show b.size ≤ maxLen by unfold maxLen; omega) HB fun xb xc h2 H2 => ?_
    rw [DSl_slice]
    refine (F78_spec (bs := sb b) W hd hn (sb_B8 b) (sb_length b) (H2.ordT 3 [2, 0, 1])).mono ?_
    rintro v h3 ⟨rfl, H3⟩
    rw [DI_int]
    exact ⟨rfl, done H3⟩
  rw [kne k11, cond_false, if_neg k11]
  exact ⟨rfl, done H1⟩
/-- The document's. -/
theorem F25_spec (W : A.WF) (hs : A.steps < 1099511627776) (hm : A.files.length < 1099511627776) (hb : b.size < 4611686018427387904) (ht : turn < 256) (hp : Pks F ps pa pl pc) (H : sat (refP m A :: F) h) :
    CallsH Tryz.prog 25 [ptrV m, .agg (actV k dir name b n turn pa pl pc)] h fun v h' => v = .int .i64 ((A.act k dir name b n turn ps).2 : Int) ∧ sat (refP m (A.act k dir name b n turn ps).1 :: F) h' := by
  apply F25b_ok
  unfold F25b AF.FS.act
  refine Al_sat H fun b0 h1 H0 => ?_
  have H1 := H0.mv 1
  have HB : sat (pt b0 (.cells (actV k dir name b n turn pa pl pc) 34 (0, 0)) :: refP m A :: F) h1 := H0
  have done : ∀ {B : AF.FS} {h' : Heap}, sat (refP m B :: pt b0 (.cells (actV k dir name b n turn pa pl pc) 34 (0, 0)) :: F) h' → sat (refP m B :: F) h' := fun H' => H'.ordT 2 [0]
  refine LdInt (x := k) HB rfl ?_
  by_cases k0 : k = 0
  · rw [keq k0, cond_true, if_pos k0]
    refine LdStr HB rfl ?_
    refine (F75_spec W hs H1).mono ?_
    rintro v h2 ⟨rfl, H2⟩
    rw [DI_int]
    exact ⟨rfl, done H2⟩
  rw [kne k0, cond_false, if_neg k0]
  by_cases k1 : k = 1
  · rw [keq k1, cond_true, if_pos k1]
    refine LdStr HB rfl (LdStr HB rfl ?_)
    refine (F64_spec W hs hm H1).mono ?_
    rintro v h2 ⟨rfl, H2⟩
    rw [DI_int]
    exact ⟨rfl, done H2⟩
  rw [kne k1, cond_false, if_neg k1]
  by_cases k2 : k = 2
  · rw [keq k2, cond_true, if_pos k2]
    refine LdStr HB rfl (LdStr HB rfl (LdStr HB rfl ?_))
    refine (F65_spec W hs hb H1).mono ?_
    rintro v h2 ⟨rfl, H2⟩
    rw [DI_int]
    exact ⟨rfl, done H2⟩
  rw [kne k2, cond_false, if_neg k2]
  by_cases k3 : k = 3
  · rw [keq k3, cond_true, if_pos k3]
    refine LdStr HB rfl (LdStr HB rfl ?_)
    refine (F66_spec W hs H1).mono ?_
    rintro v h2 ⟨rfl, H2⟩
    rw [DI_int]
    exact ⟨rfl, done H2⟩
  rw [kne k3, cond_false, if_neg k3]
  by_cases k4 : k = 4
  · rw [keq k4, cond_true, if_pos k4]
    refine LdStr HB rfl ?_
    refine (F68_spec W hs H1).mono ?_
    rintro v h2 ⟨rfl, H2⟩
    rw [DI_int]
    exact ⟨rfl, done H2⟩
  rw [kne k4, cond_false, if_neg k4]
  by_cases k5 : k = 5
  · rw [keq k5, cond_true, if_pos k5]
    refine LdStr HB rfl (LdStr HB rfl (LdStr HB rfl ?_))
    refine (F67_spec W hs H1).mono ?_
    rintro v h2 ⟨rfl, H2⟩
    rw [DI_int]
    exact ⟨rfl, done H2⟩
  rw [kne k5, cond_false, if_neg k5]
  by_cases k6 : k = 6
  · rw [keq k6, cond_true, if_pos k6]
    refine LdStr HB rfl (LdStr HB rfl ?_)
    refine (F63_spec W hs H1).mono ?_
    rintro v h2 ⟨rfl, H2⟩
    rw [DI_int]
    exact ⟨rfl, done H2⟩
  rw [kne k6, cond_false, if_neg k6]
  by_cases k7 : k = 7
  · rw [keq k7, cond_true, if_pos k7]
    refine LdInt (x := n) HB rfl ?_
    refine (F79_spec H1).mono ?_
    rintro v h2 ⟨rfl, H2⟩
    rw [DI_int]
    exact ⟨rfl, done H2⟩
  rw [kne k7, cond_false, if_neg k7]
  by_cases k8 : k = 8
  · rw [keq k8, cond_true, if_pos k8]
    refine LdInt (x := n) HB rfl ?_
    refine (F80_spec H1).mono ?_
    rintro v h2 ⟨rfl, H2⟩
    rw [DI_int]
    exact ⟨rfl, done H2⟩
  rw [kne k8, cond_false, if_neg k8]
  by_cases k9 : k = 9
  · rw [keq k9, cond_true, if_pos k9]
    refine LdSl (a := pa) (l := pl) (m := pc) HB rfl ?_
    refine (F81_spec W hp.cons hs H1).mono ?_
    rintro v h2 ⟨rfl, H2⟩
    exact ⟨rfl, rfl, done H2⟩
  rw [kne k9, cond_false, if_neg k9]
  by_cases k10 : k = 10
  · rw [keq k10, cond_true, if_pos k10]
    refine LdStr HB rfl (LdStr HB rfl ?_)
    refine LdInt (x := n) HB rfl ?_
    refine LdInt (x := (turn : Int)) HB rfl ?_
    refine (F82_spec W ht H1).mono ?_
    rintro v h2 ⟨rfl, H2⟩
    rw [DI_int]
    exact ⟨rfl, done H2⟩
  rw [kne k10, cond_false, if_neg k10]
  by_cases k11 : k = 11
  · rw [keq k11, cond_true, if_pos k11]
    refine LdStr HB rfl (LdStr HB rfl (LdStr HB rfl ?_))
    refine (F83_spec W hm H1).mono ?_
    rintro v h3 ⟨rfl, H3⟩
    rw [DI_int]
    exact ⟨rfl, done H3⟩
  rw [kne k11, cond_false, if_neg k11]
  exact ⟨rfl, done H1⟩
end

end Go.Proofs.YticjjdhaikbdaaaGreat

namespace Go.Proofs.YticjjdhaikbdaaaGreat
open Go Go.RowKit
set_option linter.unusedVariables false
set_option linter.unusedSimpArgs false
set_option maxRecDepth 8000

section
variable {f m : Nat} {A : AF.FS} {F : List HProp} {h : Heap}
/-- Both show the same. -/
theorem F26_spec (W : A.WF) (H : sat (fsP f A :: refP m A :: F) h) : CallsH Tryz.prog 26 [ptrV f, ptrV m] h fun v h' => v = .bool true ∧ sat (fsP f A :: refP m A :: F) h' := by
  apply F26b_ok
  unfold F26b
  have hfew := W.few
  refine ⟨_, (F84_spec H).mono fun v h' hh => hh, ?_⟩
  rw [DI_int]
  refine ⟨_, (F85_spec W (H.mv 1)).mono fun v h' hh => hh, ?_⟩
  rw [DI_int, bneN, decide_eq_false (by simp), cond_false]
  refine ⟨_, (F32_spec H).mono fun v h' hh => hh, ?_⟩
  rw [DI_int]
  obtain ⟨q, hq, H1⟩ := refP_open (H.mv 1)
  simp only [NN'_some']
  refine LdInt (x := (A.steps : Int)) H1 rfl ?_
  rw [bneN, decide_eq_false (by simp), cond_false]
  refine ⟨_, (F86_spec H).mono fun v h' hh => hh, ?_⟩
  rw [DB_bool]
  refine LdC (v := .bool A.off) H1 rfl ?_
  rw [DB_bool, show ((!A.off) == A.off) = false by cases A.off <;> rfl, cond_false]
  refine (F87_spec W (H1.ordT 5 [4, 0, 1, 2, 3])).mono ?_
  rintro v h1 ⟨da, dc, rfl, H2⟩
  rw [DSl_slice]
  -- ownS dirs, fsP, pt m, files, dirs, lists, F
  refine LdSl (a := q.da) (l := A.dirs.length) (m := q.dc) (H2.mv 2) rfl ?_
  rw [bneN, decide_eq_false (by simp), cond_false]
  have H3 : sat (refP m A :: ownS 9 1 da A.dirs.length dc ((A.dirs.map (·.name)).map Value.string) :: fsP f A :: F) h1 := refP_shut hq (H2.ordT 6 [2, 3, 4, 5, 0, 1])
  refine ⟨fun st hh => ∃ i : Nat, st = (i : Int) ∧ i ≤ A.dirs.length ∧ sat (refP m A :: ownS 9 1 da A.dirs.length dc ((A.dirs.map (·.name)).map Value.string) :: fsP f A :: F) hh,
    fun st _ => ((A.dirs.length : Int) - st).toNat, ⟨0, rfl, Nat.zero_le _, H3⟩, ?_⟩
  rintro st h2 ⟨i, rfl, hi, H4⟩
  by_cases hlt : i < A.dirs.length
  · rw [decide_eq_true (show ((i : Int) < (A.dirs.length : Int)) by omega), cond_true]
    obtain ⟨d, hd⟩ : ∃ d, A.dirs[i]? = some d := ⟨_, List.getElem?_eq_getElem hlt⟩
    have hnm : (A.dirs.map (·.name))[i]? = some d.name := by rw [List.getElem?_map, hd]; rfl
    have hnl : (A.dirs.map (·.name)).length = A.dirs.length := List.length_map ..
    have hds : d.name.size < 4611686018427387904 := by
      have := (W.each d (List.mem_of_getElem? hd)).name
      unfold AF.right at this
      simp only [Bool.and_eq_true, decide_eq_true_eq] at this
      omega
    refine strRead (ownS_read (H4.mv 1)) hnl hnm fun b hc => CStr hc ?_
    refine (F47_spec W hds (H4.mv 2)).mono ?_
    have mdir : ∀ {h' : Heap} {G : List HProp} {K : ByteArray → Prop}, sat (refP m A :: G) h' → K d.name → Ld h' ((⟨m, 0, none⟩ : Addr).add 5) fun v4 => DSl v4 fun x10a x10l x10c => IdxA x10a x10l (i : Int) 4 fun a5 => Ld h' (a5.add 0) fun v5 => DS v5 K := by
      intro h' G K HH hK
      obtain ⟨q, hq, HH1⟩ := refP_open HH
      obtain ⟨x, hx, _⟩ := rdir_read hq hd (HH1.mv 3 |>.mv 3)
      refine LdSl (a := q.da) (l := A.dirs.length) (m := q.dc) HH1 rfl ?_
      exact dirx_read hq hd hx HH1 fun b hc => CStr (hc 0 _ rfl) hK
    have next : ∀ hx, sat (refP m A :: ownS 9 1 da A.dirs.length dc ((A.dirs.map (·.name)).map Value.string) :: fsP f A :: F) hx →
        (∃ i_1 : Nat, IntKind.wrap .i64 ((i : Int) + 1) = (i_1 : Int) ∧ i_1 ≤ A.dirs.length ∧ sat (refP m A :: ownS 9 1 da A.dirs.length dc ((A.dirs.map (·.name)).map Value.string) :: fsP f A :: F) hx) ∧ ((A.dirs.length : Int) - IntKind.wrap .i64 ((i : Int) + 1)).toNat < ((A.dirs.length : Int) - (i : Int)).toNat := by
      intro hx HH
      rw [wrap64_succ (by omega)]
      exact ⟨⟨i + 1, rfl, by omega, HH⟩, by omega⟩
    rintro v h3 (⟨ks, ka, kc, hl, hright, hkl, rfl, H5⟩ | ⟨e, hl, e0, rfl, H5⟩)
    · refine ⟨ka, ks.length, kc, 0, rfl, ?_⟩
      -- own ks, fsP, refP, own dirs, F
      refine mdir (H5.mv 2) ?_
      refine (F61_spec W (H5.mv 2)).mono ?_
      rintro v h4 (⟨ks2, ka2, kc2, hl2, rfl, H6⟩ | ⟨e, hl2, _⟩)
      · rw [hl] at hl2
        cases hl2
        refine ⟨ka2, ks.length, kc2, 0, rfl, ?_⟩
        -- own ks2, refP, own ks, fsP, own dirs, F
        refine strRead (ownS_read (H6.mv 4)) hnl hnm fun b hc => CStr hc ?_
        refine mdir (H6.mv 1) ?_
        rw [strEq_dec, decide_eq_true rfl, Bool.not_true, cond_false, show ((0 : Int) != 0) = false from rfl, cond_false, bneN, decide_eq_false (by simp), cond_false]
        refine ⟨fun st hh => ∃ n : Nat, st = (n : Int) ∧ n ≤ ks.length ∧ sat (ownS 9 1 ka2 ks.length kc2 (ks.map Value.string) :: refP m A :: ownS 9 1 ka ks.length kc (ks.map Value.string) :: fsP f A :: ownS 9 1 da A.dirs.length dc ((A.dirs.map (·.name)).map Value.string) :: F) hh,
          fun st _ => ((ks.length : Int) - st).toNat, ⟨0, rfl, Nat.zero_le _, H6⟩, ?_⟩
        rintro st h5 ⟨n, rfl, hn, H7⟩
        by_cases hlt2 : n < ks.length
        · rw [decide_eq_true (show ((n : Int) < (ks.length : Int)) by omega), cond_true]
          obtain ⟨k, hk⟩ : ∃ k, ks[n]? = some k := ⟨_, List.getElem?_eq_getElem hlt2⟩
          have hks : k.size < 4611686018427387904 := by
            have := hright k (List.mem_of_getElem? hk)
            unfold AF.right at this
            simp only [Bool.and_eq_true, decide_eq_true_eq] at this
            omega
          refine strRead (ownS_read (H7.mv 4)) hnl hnm fun b hc => CStr hc ?_
          refine strRead (ownS_read (H7.mv 2)) rfl hk fun b hc => CStr hc ?_
          refine (F69_spec W hds hks (H7.mv 3)).mono ?_
          have tail : ∀ {x19a : Option Addr} {x19l x19c : Nat} {x20 : Int} {h6 : Heap} {bs : ByteArray}, sat (fsP f A :: ownS 9 1 ka2 ks.length kc2 (ks.map Value.string) :: refP m A :: ownS 9 1 ka ks.length kc (ks.map Value.string) :: ownS 9 1 da A.dirs.length dc ((A.dirs.map (·.name)).map Value.string) :: F) h6 → BytesIn h6 x19a x19l bs → readRV (A.read d.name k) = .tuple #[.string bs, .int .i64 x20] →
              IdxA da A.dirs.length (i : Int) 1 fun a11 => Ld h6 a11 fun v11 => DS v11 fun x21 => IdxA ka2 ks.length (n : Int) 1 fun a12 => Ld h6 a12 fun v12 => DS v12 fun x22 => CallsH Tryz.prog 71 [ptrV m, .string x21, .string x22] h6 fun r12 h_10 =>
                ∃ (x23 : ByteArray), ∃ (x24 : Int), r12 = .tuple #[.string x23, .int .i64 x24] ∧ IdxA ka ks.length (n : Int) 1 fun a13 => Ld h_10 a13 fun v13 => DS v13 fun x25 => IdxA ka2 ks.length (n : Int) 1 fun a14 => Ld h_10 a14 fun v14 => DS v14 fun x26 =>
                (bif !strEq x25 x26 then Value.bool false = Value.bool true ∧ sat (fsP f A :: refP m A :: F) h_10 else
                  (bif (x20 : Int) != x24 then Value.bool false = Value.bool true ∧ sat (fsP f A :: refP m A :: F) h_10 else
                    ∃ bs0 : ByteArray, BytesIn h_10 x19a x19l bs0 ∧ (bif !strEq bs0 x23 then Value.bool false = Value.bool true ∧ sat (fsP f A :: refP m A :: F) h_10 else
                      ((∃ n_1 : Nat, IntKind.wrap .i64 ((n : Int) + 1) = (n_1 : Int) ∧ n_1 ≤ ks.length ∧ sat (ownS 9 1 ka2 ks.length kc2 (ks.map Value.string) :: refP m A :: ownS 9 1 ka ks.length kc (ks.map Value.string) :: fsP f A :: ownS 9 1 da A.dirs.length dc ((A.dirs.map (·.name)).map Value.string) :: F) h_10) ∧ ((ks.length : Int) - IntKind.wrap .i64 ((n : Int) + 1)).toNat < ((ks.length : Int) - (n : Int)).toNat)))) := by
            intro x19a x19l x19c x20 h6 bs HH hb hv
            refine strRead (ownS_read (HH.mv 4)) hnl hnm fun b hc => CStr hc ?_
            refine strRead (ownS_read (HH.mv 1)) rfl hk fun b hc => CStr hc ?_
            refine (F71_spec W (HH.mv 2)).mono ?_
            rintro v h7 ⟨rfl, rfl⟩
            refine ⟨bs, x20, hv, ?_⟩
            refine strRead (ownS_read (HH.mv 3)) rfl hk fun b hc => CStr hc ?_
            refine strRead (ownS_read (HH.mv 1)) rfl hk fun b hc => CStr hc ?_
            rw [strEq_dec, decide_eq_true rfl, Bool.not_true, cond_false, show (x20 != x20) = false by rw [bne_self_eq_false], cond_false]
            refine ⟨bs, hb, ?_⟩
            rw [strEq_dec, decide_eq_true rfl, Bool.not_true, cond_false, wrap64_succ (by omega)]
            exact ⟨⟨n + 1, rfl, by omega, HH.ordT 5 [1, 2, 3, 0, 4]⟩, by omega⟩
          rintro v h6 (⟨bs, xa, xc, hrd, hb8, hbl, rfl, H8⟩ | ⟨e, hrd, e0, rfl, H8⟩)
          · refine ⟨xa, bs.length, xc, 0, rfl, ?_⟩
            exact tail (x19c := xc) (bs := ofN bs) H8.drop (bytesIn_of (ownS_read H8) rfl hb8) (by rw [hrd]; rfl)
          · refine ⟨none, 0, 0, (e : Int), rfl, ?_⟩
            exact tail (x19c := 0) (bs := .empty) H8 rfl (by rw [hrd]; rfl)
        · rw [decide_eq_false (by omega), cond_false]
          exact next h5 (H7.ordT 5 [1, 4, 3])
      · rw [hl] at hl2
        cases hl2
    · refine ⟨none, 0, 0, (e : Int), rfl, ?_⟩
      -- fsP, refP, own dirs, F
      refine mdir (H5.mv 1) ?_
      refine (F61_spec W (H5.mv 1)).mono ?_
      rintro v h4 (⟨ks2, ka2, kc2, hl2, rfl, H6⟩ | ⟨e2, hl2, _, rfl, H6⟩)
      · rw [hl] at hl2
        cases hl2
      · rw [hl] at hl2
        cases hl2
        refine ⟨none, 0, 0, (e : Int), rfl, ?_⟩
        -- refP, fsP, own dirs, F
        refine strRead (ownS_read (H6.mv 2)) hnl hnm fun b hc => CStr hc ?_
        refine mdir H6 ?_
        rw [strEq_dec, decide_eq_true rfl, Bool.not_true, cond_false, show ((e : Int) != (e : Int)) = false by rw [bne_self_eq_false], cond_false, show ((((0 : Nat) : Int)) != ((0 : Nat) : Int)) = false from rfl, cond_false]
        refine ⟨fun st hh => st = 0 ∧ sat (refP m A :: fsP f A :: ownS 9 1 da A.dirs.length dc ((A.dirs.map (·.name)).map Value.string) :: F) hh, fun _ _ => 0, ⟨rfl, H6⟩, ?_⟩
        rintro st h5 ⟨rfl, H7⟩
        rw [show decide ((0 : Int) < ((0 : Nat) : Int)) = false from rfl, cond_false]
        exact next h5 (H7.ordT 3 [0, 2, 1])
  · rw [decide_eq_false (by omega), cond_false]
    exact ⟨by trivial, H4.ordT 3 [2, 0]⟩
end

end Go.Proofs.YticjjdhaikbdaaaGreat
