/- Crash: the calls themselves. -/
import Derived.Test.YticjjdhaikbdaaaFs19
namespace Go.Proofs.Yticjjdhaikbdaaa
open Go Go.RowKit Go.MapKept
set_option linter.unusedVariables false
set_option linter.unusedSimpArgs false

section
variable {b : Nat} {A : AF.FS} {q : FsQ} {F : List HProp} {h : Heap}
/-- The files after so many entries, of a list of them. -/
def filesAt (A : AF.FS) (ps : List Int) (xs : List Nat) : List AF.File × List Int := AF.crashFiles xs A.files (picksAt A ps A.dirs.length)
theorem crash_dirs (ps : List Int) : (A.crash ps).dirs = dirsAt A ps A.dirs.length := by
  unfold AF.FS.crash dirsAt
  rw [List.take_length, List.drop_length, List.append_nil]
theorem crash_files (ps : List Int) : (A.crash ps).files = (filesAt A ps (A.crash ps).idx).1 := by
  unfold filesAt picksAt
  rw [List.take_length]
  rfl
theorem crash_names (ps : List Int) : (A.crash ps).dirs.map (·.name) = A.dirs.map (·.name) := crashDirs_names A.dirs ps
theorem filesAt_next {ps : List Int} {xs : List Nat} {x : Nat} {y : AF.File} (hy : (filesAt A ps xs).1[x]? = some y) :
    filesAt A ps (xs ++ [x]) = ((filesAt A ps xs).1.set x ⟨y.b.take (y.safe + (AF.pick (filesAt A ps xs).2 (y.b.length - y.safe)).1), y.safe + (AF.pick (filesAt A ps xs).2 (y.b.length - y.safe)).1⟩, (AF.pick (filesAt A ps xs).2 (y.b.length - y.safe)).2) := by
  have hg : (filesAt A ps xs).1.getD x default = y := by rw [List.getD_eq_getElem?_getD, hy]; rfl
  have : filesAt A ps (xs ++ [x]) = AF.crashFiles [x] (filesAt A ps xs).1 (filesAt A ps xs).2 := by unfold filesAt; rw [crashFiles_append]
  rw [this]
  simp only [AF.crashFiles, hg]
theorem filesAt_ok (W : A.WF) (ps : List Int) (xs : List Nat) : ∀ y ∈ (filesAt A ps xs).1, AF.FileOk y := AF.crashFiles_ok W.files
theorem filesAt_length (ps : List Int) (xs : List Nat) : (filesAt A ps xs).1.length = A.files.length := AF.crashFiles_length _ _ _
theorem fsQ_crash (hq : fsQ A q) (ps : List Int) : fsQ (A.crash ps) q := fsQ_of hq (crash_names ps) (by rw [crash_files, filesAt_length])
abbrev rawC (b : Nat) (A : AF.FS) (q : FsQ) : HProp := rawOf b A q.md
theorem sat_pack {B : HProp} {L : List HProp} (H : sat (B :: (L ++ F)) h) : sat (B :: Many L :: F) h := let ⟨r, hr, hs⟩ := H; ⟨r, sep_mono (fun _ h => h) (fun _ h => star_append.1 h) hr, hs⟩
/-- One operation of many, called. -/
theorem vs_call {xbs : List Nat} {bb n j : Nat} {l : AF.Names} {os : List AF.Op} {vs : List Value} {o : AF.Op} {v : Value} (hl : vs.length = os.length) (ho : os[j]? = some o) (hv : vs[j]? = some v)
    (H : sat (namesP xbs bb l :: Many (List.zipWith (opP xbs) os vs) :: F) h) (hk : AF.Ok n l) (hf : AF.Fits n l o) :
    CallV Try.prog v [.map (some bb)] h fun r h' => r = .tuple #[] ∧ sat (namesP xbs bb (AF.does l o) :: Many (List.zipWith (opP xbs) os vs) :: F) h' := by
  have H2 := many_out (H.mv 1) ho hv
  refine (op_call (H2.ordT 3 [2, 0, 1]) hk hf).mono ?_
  rintro r h' ⟨rfl, H3⟩
  exact ⟨rfl, (many_back ho hv (H3.ordT 3 [1, 2, 0])).mv 1⟩
theorem F24_spec {ps : List Int} {pa : Option Addr} {pl pc : Nat} (W : A.WF) (hp : Pks F ps pa pl pc) (hs : A.steps < 1099511627776) (H : sat (fsP b A :: F) h) :
    CallsH Try.prog 24 [ptrV b, .slice pa pl pc] h fun v h' => v = .int .i64 0 ∧ sat (fsP b (A.crash ps) :: F) h' := by
  obtain ⟨q, hq, H0⟩ := fsP_open H
  have W2 := W.crash ps
  have hq2 := fsQ_crash hq ps
  have hfew := W.few
  apply F24_ok
  unfold F24
  refine Al_sat H0 fun b0 h1 H1 => ?_
  rw [show (some (⟨b, 0, none⟩ : Addr)).isNone = false from rfl, cond_false]
  -- b0, raw, ownM, files, dirs
  refine (F37_raw W hq (H1.bk 4)).mono ?_
  rintro v h2 ⟨na, nc, rfl, H2⟩
  rw [DSl_slice]
  refine ⟨fun st hh => ∃ i, st = ((i : Nat) : Int) ∧ i ≤ A.dirs.length ∧ ∃ (a : Option Addr) (l c : Nat), Pks F (picksAt A ps i) a l c ∧
      sat (cellS b0 a l c :: ownS 9 1 na A.dirs.length nc ((A.dirs.map (·.name)).map Value.string) :: rawC b A q :: ownM strKeys q.md q.m :: filesP q.xbs A.files :: dirsP q.xbs q.fbs (dirsAt A ps i) :: F) hh,
    fun st _ => ((A.dirs.length : Int) - st).toNat, ⟨0, rfl, Nat.zero_le _, pa, pl, pc, hp, H2.ordT 6 [5, 0, 1, 2, 3, 4]⟩, ?_⟩
  rintro st h3 ⟨i, rfl, hi, a, l, c, hpk, H3⟩
  by_cases hlt : i < A.dirs.length
  · rw [decide_eq_true (show ((i : Int) < (A.dirs.length : Int)) by omega), cond_true]
    obtain ⟨d, hdi⟩ : ∃ d, A.dirs[i]? = some d := ⟨_, List.getElem?_eq_getElem hlt⟩
    obtain ⟨fb, hfi⟩ := fb_of hq hdi
    have w := W.each d (List.mem_of_getElem? hdi)
    have hpl := w.pend
    have hnm : ((A.dirs.map (·.name)).map Value.string)[i]? = some (.string d.name) := by rw [List.getElem?_map, List.getElem?_map, hdi]; rfl
    refine IdxA_nat (v := .string d.name) (ownS_read (H3.mv 1)) (by rw [List.length_map, List.length_map]) hnm fun ba hba hc => ⟨_, hc, ?_⟩
    show DS (.string d.name) _
    rw [DS_string]
    simp only [NN'_some', addr_add0]
    refine LdC (b := b) (v := .map (some q.md)) (H3.mv 2) rfl ?_
    rw [DM_map]
    refine findM (H3.mv 3) (lk_at W hq hdi hfi) ?_
    simp only [NN'_some', addr_add0]
    obtain ⟨nb, bb, oa, oc, H4⟩ := dir_out (H3.mv 5) (dirsAt_get hdi) hfi
    refine LdC (b := fb) (i := 2) (v := .slice oa d.pend.length oc) H4 rfl ?_
    rw [DSl_slice]
    refine LdC (b := fb) (i := 2) (v := .slice oa d.pend.length oc) H4 rfl ?_
    rw [DSl_slice]
    -- pt fb, names nb, names bb, ownL, dirR, cell, ownS, raw, ownM, files
    refine (F63_spec (n := d.pend.length) (by omega) hpk (H4.rest 10) (H4.mv 5)).mono ?_
    rintro v h4 ⟨rfl, a2, l2, c2, hpk2, H5⟩
    rw [DI_int]
    -- cell, pt fb, names nb, names bb, ownL, dirR, ownS, raw, ownM, files
    refine ⟨rfl, rfl, rfl, ?_⟩
    refine ⟨LdC (b := fb) (i := 2) (v := .slice oa d.pend.length oc) (H5.mv 1) rfl (by rw [DSl_slice]; rfl), rfl, ?_⟩
    have hple := AF.pick_le (picksAt A ps i) d.pend.length
    generalize hk : (AF.pick (picksAt A ps i) d.pend.length).1 = k at hple
    have hol := ownL_len (H5.mv 4)
    refine SlV_nat (lo := 0) (hi := k) (mx := oc) (Nat.zero_le _) (by omega) (Nat.le_refl _) ?_
    rw [subA_zero, Nat.sub_zero]
    obtain ⟨vs, hvl, H6⟩ := ownL_open (H5.mv 4)
    have H7 : sat (Many (List.zipWith (opP q.xbs) d.pend vs) :: ownS 96 1 oa d.pend.length oc vs :: cellS b0 a2 l2 c2 :: pt fb (dirC nb bb oa d.pend.length oc) :: namesP q.xbs nb d.now :: namesP q.xbs bb d.base :: dirR q.xbs q.fbs (dirsAt A ps i) i ::
        ownS 9 1 na A.dirs.length nc ((A.dirs.map (·.name)).map Value.string) :: rawC b A q :: ownM strKeys q.md q.m :: filesP q.xbs A.files :: F) h4 := by
      have K : sat (ownS 96 1 oa d.pend.length oc vs :: Many (List.zipWith (opP q.xbs) d.pend vs) :: _) h4 := sat_pack H6
      exact K.mv 1
    refine ⟨fun st hh => ∃ j, st = ((j : Nat) : Int) ∧ j ≤ k ∧ sat (Many (List.zipWith (opP q.xbs) d.pend vs) :: ownS 96 1 oa d.pend.length oc vs :: cellS b0 a2 l2 c2 :: pt fb (dirC nb bb oa d.pend.length oc) :: namesP q.xbs nb d.now :: namesP q.xbs bb (AF.play d.base (d.pend.take j)) :: dirR q.xbs q.fbs (dirsAt A ps i) i ::
        ownS 9 1 na A.dirs.length nc ((A.dirs.map (·.name)).map Value.string) :: rawC b A q :: ownM strKeys q.md q.m :: filesP q.xbs A.files :: F) hh,
      fun st _ => ((k : Int) - st).toNat, ⟨0, rfl, Nat.zero_le _, H7⟩, ?_⟩
    rintro st h5 ⟨j, rfl, hj, H8⟩
    by_cases hjk : j < k
    · rw [decide_eq_true (show ((j : Int) < (k : Int)) by omega), cond_true]
      obtain ⟨o, ho⟩ : ∃ o, d.pend[j]? = some o := ⟨_, List.getElem?_eq_getElem (by omega)⟩
      obtain ⟨v, hv⟩ : ∃ v, vs[j]? = some v := ⟨_, List.getElem?_eq_getElem (by omega)⟩
      have hrd : RdC h5 oa (vs.take k) := by
        have := (ownS_read (H8.mv 1)).sub 0 k oc (by omega)
        rwa [subA_zero, List.drop_zero] at this
      refine IdxA_nat (v := v) hrd (by rw [List.length_take]; omega) (by rw [List.getElem?_take, if_pos hjk]; exact hv) fun ba2 hba2 hc2 => ⟨_, hc2, ?_⟩
      refine ⟨v, rfl, ?_⟩
      refine LdC (b := fb) (i := 1) (v := .map (some bb)) (H8.mv 3) rfl ?_
      rw [DM_map]
      obtain ⟨hok, hfit⟩ := w.runs.at j ho
      refine (vs_call hvl ho hv (H8.ordT 11 [5, 0, 1, 2, 3, 4, 6, 7, 8, 9, 10]) hok hfit).mono ?_
      rintro r h6 ⟨rfl, H9⟩
      refine ⟨rfl, ⟨j + 1, wrap64_succ (by omega), by omega, ?_⟩, ?_⟩
      · have e : AF.play d.base (d.pend.take (j + 1)) = AF.does (AF.play d.base (d.pend.take j)) o := by
          rw [List.take_add_one, ho]
          exact AF.play_snoc _ _ _
        rw [e]
        exact H9.ordT 11 [1, 2, 3, 4, 5, 0, 6, 7, 8, 9, 10]
      · rw [wrap64_succ (by omega)]
        show ((k : Int) - ((j + 1 : Nat) : Int)).toNat < ((k : Int) - (j : Int)).toNat
        omega
    · have ejk : j = k := by omega
      subst ejk
      rw [decide_eq_false (by omega), cond_false]
      refine LdC (b := fb) (i := 1) (v := .map (some bb)) (H8.mv 3) rfl ?_
      rw [DM_map]
      obtain ⟨m2, hp2, H9⟩ := names_open (H8.mv 5)
      refine (F61_spec H9).mono ?_
      rintro v h6 ⟨cb, rfl, H10⟩
      rw [DM_map]
      -- ownM cb, ownM bb, Many, ownS 96, cell, pt fb, names nb, dirR, ownS 9, raw, ownM md, files
      have H11 : sat (pt fb (dirC nb bb oa d.pend.length oc) :: ownM strKeys cb m2 :: ownM strKeys bb m2 :: dirR q.xbs q.fbs (dirsAt A ps i) i :: cellS b0 a2 l2 c2 :: ownS 9 1 na A.dirs.length nc ((A.dirs.map (·.name)).map Value.string) :: rawC b A q :: ownM strKeys q.md q.m :: filesP q.xbs A.files :: F) h6 :=
        H10.ordT 12 [5, 0, 1, 7, 4, 8, 9, 10, 11]
      refine StCC (b := fb) (i := 0) (c' := #[.map (some cb), .map (some bb), .slice oa d.pend.length oc]) H11 (by show 0 < 3; decide) rfl fun h7 H12 => ?_
      refine StCC (b := fb) (i := 2) (c' := #[.map (some cb), .map (some bb), .slice none 0 0]) H12 (by show 2 < 3; decide) rfl fun h8 H13 => ?_
      have H14 := names_shut hp2 (H13.mv 1)
      have H15 := names_shut hp2 (H14.mv 2)
      have H16 := ownL_nil (opP q.xbs) 96 H15
      -- ownL, names bb, names cb, pt fb, dirR, cell
      have H17 : sat (dirsP q.xbs q.fbs ((dirsAt A ps i).set i (cutDir d j)) :: cellS b0 a2 l2 c2 :: ownS 9 1 na A.dirs.length nc ((A.dirs.map (·.name)).map Value.string) :: rawC b A q :: ownM strKeys q.md q.m :: filesP q.xbs A.files :: F) h8 :=
        dir_in (d := cutDir d j) (a := none) (c := 0) (dirsAt_get hdi) hfi (H16.ordT 5 [3, 2, 1, 0, 4])
      obtain ⟨en1, en2⟩ := dirsAt_next (ps := ps) hdi
      rw [hk] at en1
      rw [← en1] at H17
      rw [← en2] at hpk2
      refine ⟨⟨i + 1, wrap64_succ (by omega), by omega, a2, l2, c2, hpk2, H17.ordT 6 [1, 2, 3, 4, 5, 0]⟩, ?_⟩
      rw [wrap64_succ (by omega)]
      show ((A.dirs.length : Int) - ((i + 1 : Nat) : Int)).toNat < ((A.dirs.length : Int) - (i : Int)).toNat
      omega
  · have ei : i = A.dirs.length := by omega
    subst ei
    rw [decide_eq_false (by omega), cond_false]
    rw [← crash_dirs] at H3
    have hlen2 : (A.crash ps).dirs.length = A.dirs.length := by have := congrArg List.length (crash_names (A := A) ps); simpa using this
    -- cell, ownS, raw, ownM, files, dirs
    refine (F37_raw W2 hq2 (H3.ordT 6 [2, 3, 4, 5, 0])).mono ?_
    rintro v h4 ⟨na2, nc2, rfl, H4⟩
    rw [DSl_slice]
    -- ownS, raw, ownM, files, dirs, cell
    have idxTo : ∀ i, List Nat := fun i => ((A.crash ps).dirs.take i).flatMap fun d => d.now.map (·.2)
    refine ⟨fun st hh => ∃ i, st = ((i : Nat) : Int) ∧ i ≤ (A.crash ps).dirs.length ∧ ∃ (a : Option Addr) (l c : Nat), Pks F (filesAt A ps (((A.crash ps).dirs.take i).flatMap fun d => d.now.map (·.2))).2 a l c ∧
        sat (cellS b0 a l c :: ownS 9 1 na2 (A.crash ps).dirs.length nc2 (((A.crash ps).dirs.map (·.name)).map Value.string) :: rawC b A q :: ownM strKeys q.md q.m :: filesP q.xbs (filesAt A ps (((A.crash ps).dirs.take i).flatMap fun d => d.now.map (·.2))).1 :: dirsP q.xbs q.fbs (A.crash ps).dirs :: F) hh,
      fun st _ => (((A.crash ps).dirs.length : Int) - st).toNat, ⟨0, rfl, Nat.zero_le _, a, l, c, hpk, H4.ordT 6 [5, 0, 1, 2, 3, 4]⟩, ?_⟩
    rintro st h5 ⟨i, rfl, hi2, a3, l3, c3, hpk3, H5⟩
    by_cases hlt2 : i < (A.crash ps).dirs.length
    · rw [decide_eq_true (show ((i : Int) < ((A.crash ps).dirs.length : Int)) by omega), cond_true]
      obtain ⟨d, hdi⟩ : ∃ d, (A.crash ps).dirs[i]? = some d := ⟨_, List.getElem?_eq_getElem hlt2⟩
      obtain ⟨fb, hfi⟩ := fb_of hq2 hdi
      have w := W2.each d (List.mem_of_getElem? hdi)
      have hnm : (((A.crash ps).dirs.map (·.name)).map Value.string)[i]? = some (.string d.name) := by rw [List.getElem?_map, List.getElem?_map, hdi]; rfl
      refine IdxA_nat (v := .string d.name) (ownS_read (H5.mv 1)) (by rw [List.length_map, List.length_map]) hnm fun ba hba hc => ⟨_, hc, ?_⟩
      show DS (.string d.name) _
      rw [DS_string]
      simp only [NN'_some', addr_add0]
      refine LdC (b := b) (v := .map (some q.md)) (H5.mv 2) rfl ?_
      rw [DM_map]
      refine findM (H5.mv 3) (lk_at W2 hq2 hdi hfi) ?_
      simp only [NN'_some', addr_add0]
      obtain ⟨nb, bb, oa, oc, H6⟩ := dir_out (H5.mv 5) hdi hfi
      refine LdV (v := .map (some nb)) H6.get rfl ?_
      rw [DM_map]
      refine (F65_spec H6).mono ?_
      rintro v h6 ⟨cb, rfl, H7⟩
      refine ⟨_, rfl, ?_⟩
      obtain ⟨m2, hp2, H8⟩ := names_open (H7.mv 2)
      have hml : m2.length = d.now.length := by rw [hp2.length_eq, List.length_map]
      have hfew2 := w.ok.few
      refine (F64_spec (H8.mv 1) (by omega)).mono ?_
      rintro v h7 ⟨ka, kc, rfl, H9⟩
      rw [DSl_slice]
      have ek : sortB (m2.map (·.1)) = d.now.map (·.1) := by
        rw [sortB_perm (hp2.map (·.1)), ent_keys, sortB_up (up_names w.ok.up)]
      rw [ek, hml] at H9
      rw [hml]
      -- ownS k, ownM nb, pt fb, names bb, ownL, dirR, cell, ownS n, raw, ownM, files
      have H10 := names_shut hp2 (H9.mv 1)
      have H11 := dir_in (d := d) hdi hfi (H10.ordT 11 [2, 0, 3, 4, 5, 1, 6, 7, 8, 9, 10])
      rw [set_self hdi] at H11
      -- dirs, ownS k, cell, ownS n, raw, ownM, files
      have hdt : ((A.crash ps).dirs.take (i + 1)).flatMap (fun d : AF.Dir => d.now.map (·.2)) = ((A.crash ps).dirs.take i).flatMap (fun d : AF.Dir => d.now.map (·.2)) ++ d.now.map (·.2) := by
        rw [List.take_add_one, hdi, List.flatMap_append]
        simp
      generalize hxs : ((A.crash ps).dirs.take i).flatMap (fun d : AF.Dir => d.now.map (·.2)) = xs at hpk3 H11 hdt
      have ex0 : xs ++ (d.now.take 0).map (·.2) = xs := by simp
      refine ⟨fun st hh => ∃ j, st = ((j : Nat) : Int) ∧ j ≤ d.now.length ∧ ∃ (a : Option Addr) (l c : Nat), Pks F (filesAt A ps (xs ++ (d.now.take j).map (·.2))).2 a l c ∧
          sat (cellS b0 a l c :: ownS 9 1 ka d.now.length kc ((d.now.map (·.1)).map Value.string) :: ownS 9 1 na2 (A.crash ps).dirs.length nc2 (((A.crash ps).dirs.map (·.name)).map Value.string) :: rawC b A q :: ownM strKeys q.md q.m ::
            filesP q.xbs (filesAt A ps (xs ++ (d.now.take j).map (·.2))).1 :: dirsP q.xbs q.fbs (A.crash ps).dirs :: F) hh,
        fun st _ => ((d.now.length : Int) - st).toNat, ⟨0, rfl, Nat.zero_le _, a3, l3, c3, by rw [ex0]; exact hpk3, by rw [ex0]; exact H11.ordT 7 [2, 1, 3, 4, 5, 6, 0]⟩, ?_⟩
      rintro st h8 ⟨j, rfl, hj, a4, l4, c4, hpk4, H12⟩
      by_cases hjl : j < d.now.length
      · rw [decide_eq_true (show ((j : Int) < (d.now.length : Int)) by omega), cond_true]
        obtain ⟨p, hpj⟩ : ∃ p, d.now[j]? = some p := ⟨_, List.getElem?_eq_getElem hjl⟩
        have hpm := List.mem_of_getElem? hpj
        have hnm2 : ((d.now.map (·.1)).map Value.string)[j]? = some (.string p.1) := by rw [List.getElem?_map, List.getElem?_map, hpj]; rfl
        refine IdxA_nat (v := .string p.1) (ownS_read (H12.mv 1)) (by rw [List.length_map, List.length_map]) hnm2 fun ba2 hba2 hc2 => ⟨_, hc2, ?_⟩
        show DS (.string p.1) _
        rw [DS_string]
        obtain ⟨nb2, bb2, a5, c5, es, hfb, hes, hsz, hlk⟩ := dir_read (H12.mv 6) hdi hfi w.ok.up
        refine ⟨.map (some nb2), by rw [cellAt_of hfb]; rfl, ?_⟩
        show DM (.map (some nb2)) _
        rw [DM_map]
        obtain ⟨f, hf, hl⟩ := hlk p.1
        refine ⟨es, hes, f, hf, DP_ent hl ?_⟩
        rw [AF.mem_of w.ok.up.nodup (f := p.2) hpm]
        have hx2 : p.2 < (A.crash ps).files.length := (w.ok.each p hpm).1
        have hx3 : p.2 < (filesAt A ps (xs ++ (d.now.take j).map (·.2))).1.length := by
          rw [filesAt_length]
          rw [crash_files, filesAt_length] at hx2
          exact hx2
        obtain ⟨_, xb, _, hxb, hgd⟩ := xb_of hq2 hx2
        obtain ⟨y, hy⟩ : ∃ y, (filesAt A ps (xs ++ (d.now.take j).map (·.2))).1[p.2]? = some y := ⟨_, List.getElem?_eq_getElem hx3⟩
        obtain ⟨yo1, yo2, _⟩ := filesAt_ok W ps _ y (List.mem_of_getElem? hy)
        show NN' (some ⟨q.xbs.getD p.2 0, 0, none⟩) _
        rw [hgd]
        simp only [Option.map_some, NN'_some', addr_add0, hgd]
        obtain ⟨ya, yc, H13⟩ := file_out (H12.mv 5) hy hxb
        -- pt xb, ownS y, fileR, cell, ownS k, ownS n, raw, ownM, dirs
        refine LdV (v := .slice ya y.b.length yc) H13.get rfl ?_
        rw [DSl_slice]
        refine LdC (b := xb) (i := 1) (v := .int .i64 (y.safe : Int)) H13 rfl ?_
        rw [DI_int]
        refine LdV (v := .slice ya y.b.length yc) H13.get rfl ?_
        rw [DSl_slice]
        refine LdC (b := xb) (i := 1) (v := .int .i64 (y.safe : Int)) H13 rfl ?_
        rw [DI_int]
        have w1 : IntKind.wrap .i64 ((y.b.length : Int) - (y.safe : Int)) = ((y.b.length - y.safe : Nat) : Int) := by
          rw [IntWalk.i64_in _ (by omega)]
          omega
        rw [w1]
        refine (F63_spec (n := y.b.length - y.safe) (by omega) hpk4 (H13.rest 9) (H13.mv 3)).mono ?_
        rintro v h9 ⟨rfl, a6, l6, c6, hpk6, H14⟩
        rw [DI_int]
        -- cell, pt xb, ownS y, fileR, ownS k, ownS n, raw, ownM, dirs
        refine ⟨rfl, rfl, rfl, rfl, LdV (v := .slice ya y.b.length yc) (H14.mv 1).get rfl (by rw [DSl_slice]; rfl), rfl, rfl, rfl, LdC (b := xb) (i := 1) (v := .int .i64 (y.safe : Int)) (H14.mv 1) rfl (by rw [DI_int]; rfl), ?_⟩
        have hple := AF.pick_le (filesAt A ps (xs ++ (d.now.take j).map (·.2))).2 (y.b.length - y.safe)
        obtain hnext := filesAt_next hy
        generalize hk : (AF.pick (filesAt A ps (xs ++ (d.now.take j).map (·.2))).2 (y.b.length - y.safe)).1 = k at hple hnext
        rw [← Int.natCast_add, wrap64_nat (by omega)]
        have hyl := ownS_len (H14.mv 2)
        rw [List.length_map] at hyl
        refine SlV_nat (lo := 0) (hi := y.safe + k) (mx := yc) (Nat.zero_le _) (by omega) (Nat.le_refl _) ?_
        rw [subA_zero, Nat.sub_zero, Nat.sub_zero]
        have H15 := ownS_cut (k := y.safe + k) (by omega) (H14.mv 2)
        rw [← List.map_take] at H15
        -- ownS y, cell, pt xb, fileR, ownS k, ownS n, raw, ownM, dirs
        refine StCC (b := xb) (i := 0) (c' := #[.slice ya (y.safe + k) yc, .int .i64 (y.safe : Int)]) (H15.mv 2) (by show 0 < 2; decide) rfl fun h10 H16 => ?_
        refine LdC (b := xb) (i := 0) (v := .slice ya (y.safe + k) yc) H16 rfl ?_
        rw [DSl_slice]
        refine StCC (b := xb) (i := 1) (c' := #[.slice ya (y.safe + k) yc, .int .i64 ((y.safe + k : Nat) : Int)]) H16 (by show 1 < 2; decide) rfl fun h11 H17 => ?_
        have etl : (y.b.take (y.safe + k)).length = y.safe + k := by rw [List.length_take]; omega
        -- pt xb, ownS y, cell, fileR, ownS k, ownS n, raw, ownM, dirs
        have H18 : sat (pt xb (fileC ya (y.b.take (y.safe + k)).length yc (y.safe + k)) :: ownS 5 1 ya (y.b.take (y.safe + k)).length yc ((y.b.take (y.safe + k)).map nv) :: fileR q.xbs (filesAt A ps (xs ++ (d.now.take j).map (·.2))).1 p.2 :: cellS b0 a6 l6 c6 ::
            ownS 9 1 ka d.now.length kc ((d.now.map (·.1)).map Value.string) :: ownS 9 1 na2 (A.crash ps).dirs.length nc2 (((A.crash ps).dirs.map (·.name)).map Value.string) :: rawC b A q :: ownM strKeys q.md q.m :: dirsP q.xbs q.fbs (A.crash ps).dirs :: F) h11 := by
          rw [etl]
          exact H17.ordT 9 [0, 1, 3, 2, 4, 5, 6, 7, 8]
        have H19 := file_in (y := ⟨y.b.take (y.safe + k), y.safe + k⟩) hy hxb H18
        have ejs : (d.now.take (j + 1)).map (·.2) = (d.now.take j).map (·.2) ++ [p.2] := by
          rw [List.take_add_one, hpj]
          simp
        have en : filesAt A ps (xs ++ (d.now.take (j + 1)).map (·.2)) = ((filesAt A ps (xs ++ (d.now.take j).map (·.2))).1.set p.2 ⟨y.b.take (y.safe + k), y.safe + k⟩, (AF.pick (filesAt A ps (xs ++ (d.now.take j).map (·.2))).2 (y.b.length - y.safe)).2) := by
          rw [ejs, ← List.append_assoc]
          exact hnext
        refine ⟨⟨j + 1, wrap64_succ (by omega), by omega, a6, l6, c6, by rw [en]; exact hpk6, ?_⟩, ?_⟩
        · rw [en]
          exact H19.ordT 7 [1, 2, 3, 4, 5, 0, 6]
        · rw [wrap64_succ (by omega)]
          show ((d.now.length : Int) - ((j + 1 : Nat) : Int)).toNat < ((d.now.length : Int) - (j : Int)).toNat
          omega
      · have ejl : j = d.now.length := by omega
        subst ejl
        rw [decide_eq_false (by omega), cond_false]
        rw [List.take_length] at H12 hpk4
        rw [← hdt] at H12 hpk4
        refine ⟨⟨i + 1, wrap64_succ (by omega), by omega, a4, l4, c4, hpk4, H12.ordT 7 [0, 2, 3, 4, 5, 6]⟩, ?_⟩
        rw [wrap64_succ (by omega)]
        show (((A.crash ps).dirs.length : Int) - ((i + 1 : Nat) : Int)).toNat < (((A.crash ps).dirs.length : Int) - (i : Int)).toNat
        omega
    · have ei2 : i = (A.crash ps).dirs.length := by omega
      subst ei2
      rw [decide_eq_false (by omega), cond_false]
      rw [List.take_length] at H5
      have efs : (filesAt A ps ((A.crash ps).dirs.flatMap fun d => d.now.map (·.2))).1 = (A.crash ps).files := (crash_files ps).symm
      rw [efs] at H5
      simp only [NN'_some', addr_add0]
      -- cell, ownS, raw, ownM, files, dirs
      refine StCC (b := b) (i := 4) (c' := #[.int .i64 (A.room : Int), .int .i64 (A.used : Int), .int .i64 (A.steps : Int), .int .i64 (fuseI A.fuse), .bool false, .map (some q.md)]) (H5.mv 2) (by show 4 < 6; decide) rfl fun h6 H6 => ?_
      refine StCC (b := b) (i := 3) (c' := #[.int .i64 (A.room : Int), .int .i64 (A.used : Int), .int .i64 (A.steps : Int), .int .i64 (-1), .bool false, .map (some q.md)]) H6 (by show 3 < 6; decide) rfl fun h7 H7 => ?_
      -- raw, cell, ownS, ownM, files, dirs
      refine (F66_spec (A := A.crash ps) (room := (A.room : Int)) (used0 := (A.used : Int)) (steps := (A.steps : Int)) (fuse := -1) (off := false) W2 hq2 (H7.ordT 6 [0, 3, 4, 5])).mono ?_
      rintro v h8 ⟨rfl, H8⟩
      exact ⟨by trivial, by trivial, fsP_shut q hq2 H8⟩
end

end Go.Proofs.Yticjjdhaikbdaaa
