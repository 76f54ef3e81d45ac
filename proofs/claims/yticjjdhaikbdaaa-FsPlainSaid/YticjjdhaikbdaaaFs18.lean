/- Rename, Remove, Read, List, Dirs, and what is told at once. -/
import Derived.Test.YticjjdhaikbdaaaFs17
namespace Go.Proofs.Yticjjdhaikbdaaa
open Go Go.RowKit Go.MapKept
set_option linter.unusedVariables false
set_option linter.unusedSimpArgs false

theorem RdCv {F : List HProp} {h : Heap} {b0 : Nat} {e : TypeId} {cs : Array Value} {xs : List Value} (H : sat (pt b0 (.cells cs e (0, 0)) :: F) h) (hx : cs.toList = xs) : RdC h (some ⟨b0, 0, none⟩) xs := by
  intro j u hv
  rw [cell_of_pt H.get, ← hv, ← hx, Array.getElem?_toList]
theorem sortB_up {l : List ByteArray} (h : l.Pairwise fun a b => AF.ltB a b = true) : sortB l = l := by
  have tr : ∀ x y z : List UInt8, decide (x ≤ y) = true → decide (y ≤ z) = true → decide (x ≤ z) = true := fun x y z h1 h2 => by
    simp only [decide_eq_true_eq] at h1 h2 ⊢
    exact List.le_trans h1 h2
  have to : ∀ x y : List UInt8, (decide (x ≤ y) || decide (y ≤ x)) = true := fun x y => by
    simp only [Bool.or_eq_true, decide_eq_true_eq]
    exact List.le_total x y
  have e : (l.map fun s : ByteArray => s.data.toList).mergeSort (fun x y => decide (x ≤ y)) = l.map fun s : ByteArray => s.data.toList := by
    refine List.Perm.eq_of_pairwise (le := fun x y => decide (x ≤ y) = true) ?_ (List.pairwise_mergeSort tr to _) ?_ (List.mergeSort_perm _ _)
    · intro x y _ _ h1 h2
      simp only [decide_eq_true_eq] at h1 h2
      exact List.le_antisymm h1 h2
    · rw [List.pairwise_map]
      refine h.imp fun {a b} hab => ?_
      rw [AF.strLt_iff] at hab
      simp only [decide_eq_true_eq]
      exact List.le_of_lt hab
  unfold sortB
  rw [e, List.map_map]
  conv => rhs; rw [← List.map_id l]
  exact List.map_congr_left fun s _ => by cases s; rfl
section
variable {b : Nat} {A : AF.FS} {q : FsQ} {F : List HProp} {h : Heap}
theorem F22_spec {dir k k2 : ByteArray} (W : A.WF) (hs : A.steps < 1099511627776) (hd : dir.size < 4611686018427387904) (hn : k.size < 4611686018427387904) (hn2 : k2.size < 4611686018427387904) (H : sat (fsP b A :: F) h) :
    CallsH Try.prog 22 [ptrV b, .string dir, .string k, .string k2] h fun v h' => v = .int .i64 ((A.rename dir k k2).2 : Int) ∧ sat (fsP b (A.rename dir k k2).1 :: F) h' := by
  obtain ⟨q, hq, H0⟩ := fsP_open H
  apply F22_ok
  unfold F22
  refine Al_sat H0 fun b0 h1 H1 => Al_sat H1 fun b1 h2 H2 => ?_
  refine LdV (v := .string k) (H2.mv 1).get rfl ?_
  rw [DS_string]
  refine LdV (v := .string k2) H2.get rfl ?_
  rw [DS_string]
  refine Al_sat H2 fun b2 h3 H3 => ?_
  have H4 : sat (fs4 b A q (pt b0 (.cells #[.string k] 9 (0, 0)) :: pt b1 (.cells #[.string k2] 9 (0, 0)) :: F)) h3 := H3.ordT 7 [3, 4, 5, 6, 2, 1]
  refine (ready_spec (ss := [k, k2]) W hq H4 (RdCv H3 rfl) rfl (show 2 < 1000 by omega) hd (fun s hs => by simp at hs; rcases hs with rfl | rfl; exact hn; exact hn2)).mono ?_
  rintro v h4 ⟨rfl, hcase⟩
  have Hd : sat (fs4 b A q F) h4 := (((H4.mv 5).drop).mv 4).drop
  rcases hcase with ⟨i, d, fb, he, hdi, hfi, rfl⟩ | ⟨e, he, hne, rfl⟩
  · have w := W.each d (List.mem_of_getElem? hdi)
    obtain ⟨nb, bb, a, c, es, hfb, hes, hsz, hlk⟩ := dir_read (H4.mv 3) hdi hfi w.ok.up
    obtain ⟨f, hf, hl⟩ := hlk k
    refine ⟨some ⟨fb, 0, none⟩, 0, rfl, ?_⟩
    rw [show ((0 : Int) != 0) = false from rfl, cond_false]
    simp only [NN'_some', addr_add0]
    have rd : ∀ K : Value → Prop, K (.map (some nb)) → Ld h4 ⟨fb, 0, none⟩ K := fun K hK => ⟨_, by rw [cellAt_of hfb]; rfl, hK⟩
    refine rd _ ?_
    rw [DM_map]
    refine LdV (v := .string k) (H4.mv 4).get rfl ?_
    rw [DS_string]
    refine ⟨es, hes, f, hf, DP_ent hl ?_⟩
    have hD := AF.D_of hdi
    cases ho : AF.of d.now k with
    | none =>
      show bif (true : Bool) then _ else _
      rw [cond_true]
      have e : A.rename dir k k2 = (A, 62) := by
        unfold AF.FS.rename
        rw [he]
        simp only [hD, ho, Option.isNone_none, if_true]
      rw [e]
      exact ⟨rfl, fsP_shut q hq Hd⟩
    | some x =>
      show bif (false : Bool) then _ else _
      rw [cond_false]
      have e : A.rename dir k k2 = A.step fun g => g.did i (.rename k k2) := by
        unfold AF.FS.rename
        rw [he]
        simp only [hD, ho, Option.isNone_some, Bool.false_eq_true, if_false]
      rw [e]
      obtain ⟨_, _, hr, _, _⟩ := AF.ready_ok he
      have ho2 : AF.of d.now k ≠ none := by rw [ho]; exact fun e => by cases e
      have K1 := ((H4.mv 4).freeze.mv 5).freeze
      -- b1, b0, fs4
      have K2 : sat (opP q.xbs (.rename k k2) (.func (.func 62) #[] #[ptrV b0, ptrV b1]) :: fs4 b A q F) h4 := by
        refine sat_exi.2 ⟨(b0, b1), sat.shut (m := [pur ((Value.func (.func 62) #[] #[ptrV b0, ptrV b1]) = .func (.func 62) #[] #[ptrV b0, ptrV b1]), ro b0 (.cells #[.string k] 9 (0, 0)), ro b1 (.cells #[.string k2] 9 (0, 0))]) ?_⟩
        exact sat_pur.2 ⟨rfl, K1.mv 1⟩
      refine (F58_spec W (AF.rename_wf W hdi (hr k (by simp)) (hr k2 (by simp)) ho2) hq hdi hfi (AF.rename_fits (hr k (by simp)) (hr k2 (by simp)) ho2) hs (K2.bk 4)).mono ?_
      rintro v h5 ⟨rfl, H5⟩
      rw [DI_int]
      refine ⟨rfl, fsP_shut q ?_ H5⟩
      unfold AF.FS.step
      split
      · exact hq
      · exact fsQ_did (A := A.stepOn) hq i _
  · refine ⟨none, (e : Int), rfl, ?_⟩
    have e0 : e ≠ 0 := by omega
    rw [err_bne e0, cond_true]
    unfold AF.FS.rename
    rw [he]
    exact ⟨rfl, fsP_shut q hq Hd⟩
theorem F29_spec {dir k : ByteArray} (W : A.WF) (hs : A.steps < 1099511627776) (hd : dir.size < 4611686018427387904) (hn : k.size < 4611686018427387904) (H : sat (fsP b A :: F) h) :
    CallsH Try.prog 29 [ptrV b, .string dir, .string k] h fun v h' => v = .int .i64 ((A.remove dir k).2 : Int) ∧ sat (fsP b (A.remove dir k).1 :: F) h' := by
  obtain ⟨q, hq, H0⟩ := fsP_open H
  apply F29_ok
  unfold F29
  refine Al_sat H0 fun b0 h1 H1 => ?_
  refine LdV (v := .string k) H1.get rfl ?_
  rw [DS_string]
  refine (F60_spec W hq (H1.bk 4) hd hn).mono ?_
  rintro v h2 ⟨H2, ⟨i, x, d, y, fb, xb, he, hdi, hfi, hy, hxb, rfl⟩ | ⟨e, he, e0, rfl⟩⟩
  · refine ⟨some ⟨fb, 0, none⟩, _, 0, rfl, ?_⟩
    rw [show ((0 : Int) != 0) = false from rfl, cond_false]
    have e : A.remove dir k = A.step fun g => g.did i (.remove k) := by
      unfold AF.FS.remove
      rw [he]
    rw [e]
    obtain ⟨hrd, _⟩ := AF.entry_ok he
    obtain ⟨_, _, hr, _, _⟩ := AF.ready_ok hrd
    have K2 : sat (opP q.xbs (.remove k) (.func (.func 68) #[] #[ptrV b0]) :: fs4 b A q F) h2 := by
      refine sat_exi.2 ⟨b0, sat.shut (m := [pur ((Value.func (.func 68) #[] #[ptrV b0]) = .func (.func 68) #[] #[ptrV b0]), ro b0 (.cells #[.string k] 9 (0, 0))]) ?_⟩
      exact sat_pur.2 ⟨rfl, (H2.mv 4).freeze⟩
    refine (F58_spec W (AF.remove_wf W hdi (hr k (by simp))) hq hdi hfi (hr k (by simp)) hs (K2.bk 4)).mono ?_
    rintro v h5 ⟨rfl, H5⟩
    rw [DI_int]
    refine ⟨rfl, fsP_shut q ?_ H5⟩
    unfold AF.FS.step
    split
    · exact hq
    · exact fsQ_did (A := A.stepOn) hq i _
  · refine ⟨none, none, (e : Int), rfl, ?_⟩
    rw [err_bne e0, cond_true]
    unfold AF.FS.remove
    rw [he]
    exact ⟨rfl, fsP_shut q hq (H2.mv 4).drop⟩
theorem F67_spec {a : Option Addr} {l c : Nat} {xs : List Nat} (hl : l ≤ 140737488355328) (H : sat (ownS 5 1 a l c (xs.map nv) :: F) h) :
    CallsH Try.prog 67 [.slice a l c] h fun v h' => ∃ (a2 : Option Addr) (c2 : Nat), v = .slice a2 l c2 ∧ sat (ownS 5 1 a2 l c2 (xs.map nv) :: ownS 5 1 a l c (xs.map nv) :: F) h' := by
  apply F67_ok
  unfold F67
  cases a with
  | none =>
    obtain ⟨hxl, ⟨_, rfl, rfl, hx, H1⟩ | ⟨_, _, _, e, _⟩⟩ := ownS_cases H
    · refine ⟨none, 0, rfl, ?_⟩
      rw [hx]
      exact ownS_nil 5 1 (ownS_nil 5 1 H1)
    · cases e
  | some a =>
    rw [show (some a).isNone = false from rfl, cond_false]
    have hlen := ownS_len H
    refine Al_sat H fun b0 h1 H1 => ?_
    have H2 : sat (ownS 5 1 (some ⟨b0, 0, none⟩) 0 0 (([] : List Nat).map nv) :: ownS 5 1 (some a) l c (xs.map nv) :: F) h1 := ownS_mk H1 (fun i hi => by simp at hi) (Nat.le_refl _) (Nat.zero_le _) rfl rfl
    refine appB (ys := xs) u31 src31 inf5 H2 (srcB (ownS_read (H2.mv 1)) (by have := hlen.1; simpa using this)) (by omega) fun a2 c2 h2 _ H3 => ?_
    rw [DSl_slice]
    rw [Nat.zero_add, List.nil_append] at H3
    exact ⟨a2, c2, by rw [Nat.zero_add], H3⟩
theorem F25_spec {dir name : ByteArray} (W : A.WF) (hd : dir.size < 4611686018427387904) (hn : name.size < 4611686018427387904) (H : sat (fsP b A :: F) h) :
    CallsH Try.prog 25 [ptrV b, .string dir, .string name] h fun v h' =>
      (∃ (bs : List Nat) (a : Option Addr) (c : Nat), A.read dir name = .ok bs ∧ B8 bs ∧ bs.length ≤ 16777216 ∧ v = .tuple #[.slice a bs.length c, .int .i64 0] ∧ sat (ownS 5 1 a bs.length c (bs.map nv) :: fsP b A :: F) h') ∨
      (∃ e : Nat, A.read dir name = .error e ∧ e ≠ 0 ∧ v = .tuple #[.slice none 0 0, .int .i64 (e : Int)] ∧ sat (fsP b A :: F) h') := by
  obtain ⟨q, hq, H0⟩ := fsP_open H
  apply F25_ok
  unfold F25
  refine (F60_spec W hq H0 hd hn).mono ?_
  rintro v h1 ⟨H1, ⟨i, x, d, y, fb, xb, he, hdi, hfi, hy, hxb, rfl⟩ | ⟨e, he, e0, rfl⟩⟩
  · refine ⟨_, some ⟨xb, 0, none⟩, 0, rfl, ?_⟩
    rw [show ((0 : Int) != 0) = false from rfl, cond_false]
    simp only [NN'_some', addr_add0]
    have wy := W.files y (List.mem_of_getElem? hy)
    obtain ⟨a, c, H3⟩ := file_out (H1.mv 2) hy hxb
    refine LdV (v := .slice a y.b.length c) H3.get rfl ?_
    rw [DSl_slice]
    refine (F67_spec (by omega) (H3.mv 1)).mono ?_
    rintro v h2 ⟨a2, c2, rfl, H4⟩
    rw [DSl_slice]
    refine .inl ⟨y.b, a2, c2, ?_, wy.2.2, wy.2.1, rfl, ?_⟩
    · unfold AF.FS.read
      rw [he]
      simp only [AF.X_of hy]
    · -- copy, ownS, pt xb, fileR, raw, ownM, dirs
      have H5 := file_in hy hxb (H4.ordT 7 [2, 1, 3, 0, 4, 5, 6])
      rw [set_self hy] at H5
      have H6 : sat (fs4 b A q (ownS 5 1 a2 y.b.length c2 (y.b.map nv) :: F)) h2 := H5.ordT 5 [2, 3, 0, 4, 1]
      exact (fsP_shut q hq H6).mv 1
  · refine ⟨none, none, (e : Int), rfl, ?_⟩
    rw [err_bne e0, cond_true]
    refine .inr ⟨e, ?_, e0, rfl, fsP_shut q hq H1⟩
    unfold AF.FS.read
    rw [he]
theorem up_names {l : AF.Names} (h : AF.Up l) : (l.map (·.1)).Pairwise fun a b => AF.ltB a b = true := List.pairwise_map.2 h
theorem F30_spec {dir : ByteArray} (W : A.WF) (hd : dir.size < 4611686018427387904) (H : sat (fsP b A :: F) h) :
    CallsH Try.prog 30 [ptrV b, .string dir] h fun v h' =>
      (∃ (ks : List ByteArray) (a : Option Addr) (c : Nat), A.list dir = .ok ks ∧ (∀ k ∈ ks, AF.right k = true) ∧ ks.length ≤ 4096 ∧ v = .tuple #[.slice a ks.length c, .int .i64 0] ∧ sat (ownS 9 1 a ks.length c (ks.map Value.string) :: fsP b A :: F) h') ∨
      (∃ e : Nat, A.list dir = .error e ∧ e ≠ 0 ∧ v = .tuple #[.slice none 0 0, .int .i64 (e : Int)] ∧ sat (fsP b A :: F) h') := by
  obtain ⟨q, hq, H1⟩ := fsP_open H
  apply F30_ok
  unfold F30
  refine (ready_spec (ss := []) (a := none) (c := 0) W hq H1 rfl rfl (show 0 < 1000 by omega) hd (by simp)).mono ?_
  rintro v h1 ⟨rfl, hcase⟩
  rcases hcase with ⟨i, d, fb, he, hdi, hfi, rfl⟩ | ⟨e, he, hne, rfl⟩
  · refine ⟨some ⟨fb, 0, none⟩, 0, rfl, ?_⟩
    rw [show ((0 : Int) != 0) = false from rfl, cond_false]
    simp only [NN'_some', addr_add0]
    have w := W.each d (List.mem_of_getElem? hdi)
    obtain ⟨nb, bb, a, c, H3⟩ := dir_out (H1.mv 3) hdi hfi
    refine LdV (v := .map (some nb)) H3.get rfl ?_
    rw [DM_map]
    refine (F65_spec H3).mono ?_
    rintro v h2 ⟨cb, rfl, H4⟩
    refine ⟨_, rfl, ?_⟩
    obtain ⟨m2, hp2, H5⟩ := names_open (H4.mv 2)
    have hml : m2.length = d.now.length := by rw [hp2.length_eq, List.length_map]
    have hfew := w.ok.few
    refine (F64_spec (H5.mv 1) (by omega)).mono ?_
    rintro v h3 ⟨a3, c3, rfl, H6⟩
    rw [DSl_slice]
    have ek : sortB (m2.map (·.1)) = d.now.map (·.1) := by
      rw [sortB_perm (hp2.map (·.1)), ent_keys, sortB_up (up_names w.ok.up)]
    rw [ek] at H6
    refine .inl ⟨d.now.map (·.1), a3, c3, ?_, ?_, by rw [List.length_map]; exact hfew, by rw [List.length_map, hml], ?_⟩
    · unfold AF.FS.list
      rw [he]
      simp only [AF.D_of hdi]
    · intro k hk
      obtain ⟨p, hp, rfl⟩ := List.mem_map.1 hk
      exact (w.ok.each p hp).2
    · rw [List.length_map, ← hml]
      -- ownS, ownM nb, pt fb, names bb, ownL, dirR, raw, ownM, files
      have H7 := names_shut hp2 (H6.mv 1)
      have H8 := dir_in (d := d) hdi hfi (H7.ordT 9 [2, 0, 3, 4, 5, 1, 6, 7, 8])
      rw [set_self hdi] at H8
      have H9 : sat (fs4 b A q (ownS 9 1 a3 m2.length c3 ((d.now.map (·.1)).map Value.string) :: F)) h3 := H8.ordT 5 [2, 3, 4, 0, 1]
      exact (fsP_shut q hq H9).mv 1
  · refine ⟨none, (e : Int), rfl, ?_⟩
    have e0 : e ≠ 0 := by omega
    rw [err_bne e0, cond_true]
    refine .inr ⟨e, ?_, e0, rfl, fsP_shut q hq H1⟩
    unfold AF.FS.list
    rw [he]
theorem F37_raw {room used steps fuse : Int} {off : Bool} (W : A.WF) (hq : fsQ A q) (H : sat (rawFS b room used steps fuse off q.md :: ownM strKeys q.md q.m :: F) h) :
    CallsH Try.prog 37 [ptrV b] h fun v h' => ∃ (a : Option Addr) (c : Nat), v = .slice a A.dirs.length c ∧ sat (ownS 9 1 a A.dirs.length c ((A.dirs.map (·.name)).map Value.string) :: rawFS b room used steps fuse off q.md :: ownM strKeys q.md q.m :: F) h' := by
  apply F37_ok
  unfold F37
  rw [show (some (⟨b, 0, none⟩ : Addr)).isNone = false from rfl, cond_false]
  simp only [NN'_some']
  refine LdC (v := .map (some q.md)) H rfl ?_
  rw [DM_map]
  refine (F87_spec H).mono ?_
  rintro v h2 ⟨cb, rfl, H4⟩
  refine ⟨_, rfl, ?_⟩
  have hml : q.m.length = A.dirs.length := by have := (dirs_keys hq).length_eq; simpa using this
  have hfew := W.few
  refine (F64_specD (H4.ordT 3 [0, 2, 1]) (by omega)).mono ?_
  rintro v h3 ⟨a3, c3, rfl, H6⟩
  rw [DSl_slice]
  have ek : sortB (q.m.map (·.1)) = A.dirs.map (·.name) := by
    rw [sortB_perm (dirs_keys hq), sortB_up (List.pairwise_map.2 W.up)]
  rw [ek, hml] at H6
  exact ⟨a3, c3, by rw [hml], H6.ordT 3 [0, 2, 1]⟩
theorem F37_spec (W : A.WF) (H : sat (fsP b A :: F) h) :
    CallsH Try.prog 37 [ptrV b] h fun v h' => ∃ (a : Option Addr) (c : Nat), v = .slice a A.dirs.length c ∧ sat (ownS 9 1 a A.dirs.length c ((A.dirs.map (·.name)).map Value.string) :: fsP b A :: F) h' := by
  obtain ⟨q, hq, H1⟩ := fsP_open H
  refine (F37_raw W hq H1).mono ?_
  rintro v h1 ⟨a, c, rfl, H2⟩
  have H3 : sat (fs4 b A q (ownS 9 1 a A.dirs.length c ((A.dirs.map (·.name)).map Value.string) :: F)) h1 := H2.ordT 5 [1, 2, 3, 4, 0]
  exact ⟨a, c, rfl, (fsP_shut q hq H3).mv 1⟩
theorem F31_spec (H : sat (fsP b A :: F) h) : CallsH Try.prog 31 [ptrV b] h fun v h' => v = .int .i64 (A.used : Int) ∧ h' = h := by
  obtain ⟨q, hq, H1⟩ := fsP_open H
  apply F31_ok
  unfold F31
  rw [show (some (⟨b, 0, none⟩ : Addr)).isNone = false from rfl, cond_false]
  simp only [NN'_some']
  refine LdC (v := .int .i64 (A.used : Int)) H1 rfl ?_
  rw [DI_int]
  exact ⟨rfl, by trivial⟩
theorem F23_spec (H : sat (fsP b A :: F) h) : CallsH Try.prog 23 [ptrV b] h fun v h' => v = .int .i64 (A.steps : Int) ∧ h' = h := by
  obtain ⟨q, hq, H1⟩ := fsP_open H
  apply F23_ok
  unfold F23
  rw [show (some (⟨b, 0, none⟩ : Addr)).isNone = false from rfl, cond_false]
  simp only [NN'_some']
  refine LdC (v := .int .i64 (A.steps : Int)) H1 rfl ?_
  rw [DI_int]
  exact ⟨rfl, by trivial⟩
theorem F32_spec (H : sat (fsP b A :: F) h) : CallsH Try.prog 32 [ptrV b] h fun v h' => v = .bool (!A.off) ∧ h' = h := by
  obtain ⟨q, hq, H1⟩ := fsP_open H
  apply F32_ok
  unfold F32
  rw [show (some (⟨b, 0, none⟩ : Addr)).isNone = false from rfl, Bool.not_false, cond_true]
  simp only [NN'_some']
  refine LdC (v := .bool A.off) H1 rfl ?_
  rw [DB_bool]
  exact ⟨rfl, by trivial⟩
theorem F21_spec {n : Int} (H : sat (fsP b A :: F) h) : CallsH Try.prog 21 [ptrV b, .int .i64 n] h fun v h' => v = .int .i64 ((A.setFuse n).2 : Int) ∧ sat (fsP b (A.setFuse n).1 :: F) h' := by
  obtain ⟨q, hq, H1⟩ := fsP_open H
  apply F21_ok
  unfold F21 AF.FS.setFuse
  rw [show (some (⟨b, 0, none⟩ : Addr)).isNone = false from rfl, cond_false]
  by_cases hn : n < 0
  · rw [decide_eq_true hn, cond_true, if_pos hn]
    exact ⟨rfl, H⟩
  · rw [decide_eq_false hn, cond_false, if_neg hn]
    simp only [NN'_some', addr_add0]
    refine StCC (b := b) (i := 3) (c' := #[.int .i64 (A.room : Int), .int .i64 (A.used : Int), .int .i64 (A.steps : Int), .int .i64 n, .bool A.off, .map (some q.md)]) H1 (by show 3 < 6; decide) rfl fun h1 H2 => ?_
    refine ⟨rfl, fsP_shut (A := { A with fuse := some n.toNat }) q hq ?_⟩
    have e : fuseI (some n.toNat) = n := by show ((n.toNat : Nat) : Int) = n; omega
    show sat (rawFS b (A.room : Int) (A.used : Int) (A.steps : Int) (fuseI (some n.toNat)) A.off q.md :: _) h1
    rw [e]
    exact H2
end

end Go.Proofs.Yticjjdhaikbdaaa
