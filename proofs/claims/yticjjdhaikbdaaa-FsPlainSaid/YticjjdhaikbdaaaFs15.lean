/- Mkdir. -/
import Derived.Test.YticjjdhaikbdaaaFs14
namespace Go.Proofs.Yticjjdhaikbdaaa
open Go Go.RowKit Go.MapKept
set_option linter.unusedVariables false
set_option linter.unusedSimpArgs false

theorem star_perm {l m : List HProp} (h : l.Perm m) {r : PHeap} (H : star l r) : star m r := by
  induction h generalizing r with
  | nil => exact H
  | cons x _ ih => exact sep_mono (fun _ h => h) (fun _ h => ih h) H
  | swap x y l => exact sep_swap H
  | trans _ _ h1 h2 => exact h2 (h1 H)
theorem many_perm {l m F : List HProp} {h : Heap} (hp : l.Perm m) (H : sat (Many l :: F) h) : sat (Many m :: F) h := H.imp fun r hr => star_perm hp hr
theorem insDir_split (d : AF.Dir) : ∀ ds : List AF.Dir, ∃ k, k ≤ ds.length ∧ AF.insDir d ds = ds.take k ++ d :: ds.drop k
  | [] => ⟨0, Nat.le_refl _, rfl⟩
  | e :: ds => by
    unfold AF.insDir
    split
    · exact ⟨0, Nat.zero_le _, rfl⟩
    · obtain ⟨k, hk, he⟩ := insDir_split d ds
      exact ⟨k + 1, by simp only [List.length_cons]; omega, by rw [he]; rfl⟩
theorem zip_split {α β γ : Type} (E : α → β → γ) (x : α) (y : β) (xs : List α) (ys : List β) (k : Nat) (hl : xs.length = ys.length) : (List.zipWith E (xs.take k ++ x :: xs.drop k) (ys.take k ++ y :: ys.drop k)).Perm (E x y :: List.zipWith E xs ys) := by
  rw [List.zipWith_append (by rw [List.length_take, List.length_take, hl]), List.zipWith_cons_cons]
  refine List.perm_middle.trans (.cons _ (.of_eq ?_))
  conv => rhs; rw [← List.take_append_drop k xs, ← List.take_append_drop k ys]
  rw [List.zipWith_append (by rw [List.length_take, List.length_take, hl])]
theorem u81 : Try.prog.underlying 81 = some (.map 9 84) := by kernel_rfl
section
variable {b : Nat} {A : AF.FS} {q : FsQ} {F : List HProp} {h : Heap}
theorem names_new {xbs : List Nat} {mb : Nat} (H : sat (pt mb (.map #[] 0) :: F) h) : sat (namesP xbs mb [] :: F) h := names_shut (m := []) (.refl _) (ownM_new strKeys H)
theorem err_bne {e : Nat} (h : e ≠ 0) : ((e : Int) != 0) = true := by
  rw [bne_iff_ne]
  omega
theorem err_beq {e : Nat} (h : e ≠ 0) : ((e : Int) == 0) = false := by
  rw [beq_eq_false_iff_ne]
  omega
theorem F16_spec {dir : ByteArray} (W : A.WF) (hs : A.steps < 1099511627776) (hd : dir.size < 4611686018427387904) (H : sat (fsP b A :: F) h) :
    CallsH Try.prog 16 [ptrV b, .string dir] h fun v h' => v = .int .i64 ((A.mkdir dir).2 : Int) ∧ sat (fsP b (A.mkdir dir).1 :: F) h' := by
  obtain ⟨q, hq, H1⟩ := fsP_open H
  apply F16_ok
  unfold F16
  refine (ready_spec (ss := []) (a := none) (c := 0) W hq H1 rfl rfl (show 0 < 1000 by omega) hd (by simp)).mono ?_
  rintro v h1 ⟨rfl, hcase⟩
  rcases hcase with ⟨i, d, fb, he, hdi, hfi, rfl⟩ | ⟨e, he, hne, rfl⟩
  · refine ⟨_, 0, rfl, ?_⟩
    rw [show ((0 : Int) == 0) = true from rfl, cond_true]
    unfold AF.FS.mkdir
    rw [he]
    exact ⟨rfl, fsP_shut q hq H1⟩
  · refine ⟨none, (e : Int), rfl, ?_⟩
    have e0 : e ≠ 0 := by omega
    rw [err_beq e0, cond_false]
    by_cases h61 : e = 61
    · subst h61
      rw [show (((61 : Nat) : Int) != 61) = false from rfl, cond_false]
      simp only [NN'_some']
      refine LdC (v := .map (some q.md)) H1 rfl ?_
      rw [DM_map]
      obtain ⟨es, clock, hm, hes⟩ := mapEs_ownM (H1.mv 1)
      refine ⟨es, hes, ?_⟩
      have hml : q.m.length = A.dirs.length := by have := (dirs_keys hq).length_eq; simpa using this
      rw [hm.size, hml]
      by_cases h64 : 64 ≤ A.dirs.length
      · rw [decide_eq_true (show ((A.dirs.length : Int) ≥ 64) by omega), cond_true]
        unfold AF.FS.mkdir
        rw [he]
        simp only [if_true, if_pos h64]
        exact ⟨rfl, fsP_shut q hq H1⟩
      · rw [decide_eq_false (show ¬ ((A.dirs.length : Int) ≥ 64) by omega), cond_false]
        have em : A.mkdir dir = A.step fun g => { g with dirs := AF.insDir ⟨dir, [], [], []⟩ g.dirs } := by
          unfold AF.FS.mkdir
          rw [he]
          simp only [if_true, if_neg h64]
        have W2 := W.mkdir dir
        rw [em] at W2 ⊢
        refine (step_spec W hs H1).mono ?_
        rintro v h2 (⟨h0, rfl, H2⟩ | ⟨h0, rfl, H2⟩)
        · rw [DI_int, show ((60 : Int) != 0) = true from rfl, cond_true]
          unfold AF.FS.step
          rw [if_pos h0]
          exact ⟨rfl, fsP_shut (A := { A with off := true }) q hq H2⟩
        · rw [DI_int, show ((0 : Int) != 0) = false from rfl, cond_false]
          unfold AF.FS.step at W2 ⊢
          rw [if_neg h0] at W2 ⊢
          refine LdC (v := .map (some q.md)) H2 rfl ?_
          rw [DM_map]
          refine Al_sat H2 fun b0 h3 H3 => Al_sat H3 fun b1 h4 H4 => Al_sat H4 fun b2 h5 H5 => ?_
          refine mapUpdate_sat (E := strKeys) (k := dir) u81 u9 (H5.mv 4) fun h6 H6 => ?_
          obtain ⟨k, hk, hins⟩ := insDir_split ⟨dir, [], [], []⟩ A.dirs
          have hfl : A.dirs.length = q.fbs.length := hq.2.1.symm
          refine ⟨rfl, fsP_shut (A := { A.stepOn with dirs := AF.insDir ⟨dir, [], [], []⟩ A.stepOn.dirs }) ⟨q.md, q.fbs.take k ++ b2 :: q.fbs.drop k, q.xbs, updM q.m dir (ptrV b2)⟩ ⟨?_, ?_, hq.2.2⟩ ?_⟩
          · show (updM q.m dir (ptrV b2)).Perm (List.zipWith _ (AF.insDir ⟨dir, [], [], []⟩ A.dirs) _)
            rw [hins]
            have hno : ∀ p ∈ q.m, p.1 ≠ dir := by
              rintro ⟨k, v⟩ hp e
              obtain ⟨i, d, fb, h1, _, h2, _⟩ := (dirs_mem hq).1 hp
              exact AF.at_none (AF.ready_61 he).2 d (List.mem_of_getElem? h1) (by rw [← h2]; exact e)
            refine (updM_perm (dirs_nodup W hq)).trans ?_
            rw [delM_none hno]
            exact (hq.1.cons _).trans (zip_split (fun (d : AF.Dir) fb => (d.name, ptrV fb)) ⟨dir, [], [], []⟩ b2 A.dirs q.fbs k hfl).symm
          · show (q.fbs.take k ++ b2 :: q.fbs.drop k).length = (AF.insDir ⟨dir, [], [], []⟩ A.dirs).length
            rw [(AF.insDir_perm _ _).length_eq]
            simp only [List.length_append, List.length_take, List.length_cons, List.length_drop]
            omega
          · have hdir : sat (dirsP q.xbs (q.fbs.take k ++ b2 :: q.fbs.drop k) (AF.insDir ⟨dir, [], [], []⟩ A.dirs) :: ownM strKeys q.md (updM q.m dir (ptrV b2)) :: rawOf b A.stepOn q.md :: filesP q.xbs A.files :: F) h6 := by
              have H7 : sat (pt b0 (.map #[] 0) :: pt b1 (.map #[] 0) :: pt b2 (dirC b0 b1 none 0 0) :: dirsP q.xbs q.fbs A.dirs :: ownM strKeys q.md (updM q.m dir (ptrV b2)) :: rawOf b A.stepOn q.md :: filesP q.xbs A.files :: F) h6 := H6.ordT 7 [3, 2, 1, 6, 0, 4, 5]
              have H8 := names_new (xbs := q.xbs) ((names_new (xbs := q.xbs) H7).mv 1)
              have H9 := ownL_nil (opP q.xbs) 96 H8
              have H10 : sat (dirP q.xbs ⟨dir, [], [], []⟩ b2 :: dirsP q.xbs q.fbs A.dirs :: ownM strKeys q.md (updM q.m dir (ptrV b2)) :: rawOf b A.stepOn q.md :: filesP q.xbs A.files :: F) h6 := by
                refine sat_exi.2 ⟨⟨b0, b1, none, 0⟩, sat.shut (m := [pt b2 (dirC b0 b1 none 0 0), namesP q.xbs b0 [], namesP q.xbs b1 [], ownL (opP q.xbs) 96 none 0 0 []]) ?_⟩
                exact H9.ordT 4 [3, 2, 1, 0]
              have H11 : sat (Many (dirP q.xbs ⟨dir, [], [], []⟩ b2 :: List.zipWith (dirP q.xbs) A.dirs q.fbs) :: ownM strKeys q.md (updM q.m dir (ptrV b2)) :: rawOf b A.stepOn q.md :: filesP q.xbs A.files :: F) h6 := by
                exact H10.consMany
              rw [hins]
              exact many_perm (zip_split (dirP q.xbs) ⟨dir, [], [], []⟩ b2 A.dirs q.fbs k hfl).symm H11
            have eu : AF.FS.used { A.stepOn with dirs := AF.insDir ⟨dir, [], [], []⟩ A.stepOn.dirs } = A.used := by
              have : (AF.FS.idx { A.stepOn with dirs := AF.insDir ⟨dir, [], [], []⟩ A.stepOn.dirs }).Perm A.idx := by
                show ((AF.insDir ⟨dir, [], [], []⟩ A.dirs).flatMap _).Perm _
                exact ((AF.insDir_perm _ _).flatMap_right _).trans (.of_eq rfl)
              exact perm_sum (this.map _)
            unfold rawOf
            rw [eu]
            exact hdir.ordT 4 [2, 1, 3, 0]
    · have : ((e : Int) != 61) = true := by rw [bne_iff_ne]; omega
      rw [this, cond_true]
      unfold AF.FS.mkdir
      rw [he]
      simp only [if_neg h61]
      exact ⟨by trivial, fsP_shut q hq H1⟩
end

end Go.Proofs.Yticjjdhaikbdaaa
