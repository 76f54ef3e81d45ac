/- Names and data beside each other: found, taken out. Files have what was put behind them: plain. FsPlain: the walk. FsPlain: the acts. -/
import Derived.Test.YticjjdhaikbdaaaFsE

namespace Go.Proofs.Yticjjdhaikbdaaa
open Go Go.RowKit
set_option linter.unusedVariables false
set_option linter.unusedSimpArgs false

theorem inf9' : infoOk Try.prog 9 16 = true := inf9
/-- A variable that holds a slice of texts. -/
theorem listS_open {b : Nat} {ss : List ByteArray} {F : List HProp} {h : Heap} (H : sat (listS b ss :: F) h) : ∃ (a : Option Addr) (l c : Nat), l = ss.length ∧ sat (pt b (.cells #[.slice a l c] 41 (0, 0)) :: ownS 9 1 a l c (ss.map Value.string) :: F) h := by
  obtain ⟨⟨a, l, c⟩, H2⟩ := sat_exi.1 H
  have H3 := H2.open
  have h1 : (ss.map Value.string).length = l * 1 := (ownS_len (H3.mv 1)).1
  rw [List.length_map] at h1
  exact ⟨a, l, c, by omega, H3⟩
theorem listS_shut {b : Nat} {ss : List ByteArray} {F : List HProp} {h : Heap} {a : Option Addr} {l c : Nat} (H : sat (pt b (.cells #[.slice a l c] 41 (0, 0)) :: ownS 9 1 a l c (ss.map Value.string) :: F) h) : sat (listS b ss :: F) h :=
  sat_exi.2 ⟨(a, l, c), sat.shut (m := [pt b (.cells #[.slice a l c] 41 (0, 0)), ownS 9 1 a l c (ss.map Value.string)]) H⟩
def idxI (o : Option Nat) : Int := match o with
  | some i => (i : Int)
  | none => -1
theorem F27_spec {s : ByteArray} {b : Nat} {ss : List ByteArray} {F : List HProp} {h : Heap} (hs : ss.length < 4611686018427387904) (H : sat (listS b ss :: F) h) :
    CallsH Try.prog 27 [.string s, ptrV b] h fun v h' => h' = h ∧ v = .int .i64 (idxI (ss.findIdx? fun k => decide (k = s))) := by
  apply F27_ok
  unfold F27
  obtain ⟨a, l, c, hl, H1⟩ := listS_open H
  have hr := ownS_read (H1.mv 1)
  refine ⟨fun st hh => hh = h ∧ ∃ i : Nat, st = (i : Int) ∧ i ≤ l ∧ ∀ (j : Nat) (k : ByteArray), j < i → ss[j]? = some k → k ≠ s, fun st _ => ((l : Int) - st).toNat, ⟨rfl, 0, rfl, Nat.zero_le _, fun j k hj => by omega⟩, ?_⟩
  rintro st h1 ⟨rfl, i, rfl, hi, hno⟩
  refine LdV (v := .slice a l c) H1.get rfl ?_
  rw [DSl_slice]
  by_cases hlt : i < l
  · rw [decide_eq_true (show ((i : Int) < (l : Int)) by omega), cond_true]
    refine LdV (v := .slice a l c) H1.get rfl ?_
    rw [DSl_slice]
    obtain ⟨k, hk⟩ : ∃ k, ss[i]? = some k := ⟨_, List.getElem?_eq_getElem (by omega)⟩
    refine IdxA_nat (v := .string k) hr (by rw [List.length_map]; omega) (by rw [List.getElem?_map, hk]; rfl) fun b2 hb hc => ⟨_, hc, ?_⟩
    show DS (.string k) _
    rw [DS_string, strEq_eq]
    by_cases hks : k = s
    · rw [decide_eq_true (by rw [hks]), cond_true]
      refine ⟨by trivial, ?_⟩
      have : ss.findIdx? (fun k => decide (k = s)) = some i := by
        rw [List.findIdx?_eq_some_iff_getElem]
        obtain ⟨hil, he⟩ := List.getElem?_eq_some_iff.1 hk
        refine ⟨hil, by simp [he, hks], fun j hj => ?_⟩
        have := hno j ss[j] hj (List.getElem?_eq_getElem (by omega))
        simpa using this
      rw [this]
      rfl
    · rw [decide_eq_false (fun e => hks (sb_inj e)), cond_false, wrap64_succ (by omega)]
      refine ⟨⟨by trivial, i + 1, rfl, by omega, fun j k' hj hk' => ?_⟩, by show ((l : Int) - ((i + 1 : Nat) : Int)).toNat < ((l : Int) - (i : Int)).toNat; omega⟩
      by_cases hji : j = i
      · subst hji
        rw [hk] at hk'
        cases hk'
        exact hks
      · exact hno j k' (by omega) hk'
  · rw [decide_eq_false (by omega), cond_false]
    refine ⟨by trivial, ?_⟩
    have : ss.findIdx? (fun k => decide (k = s)) = none := by
      rw [List.findIdx?_eq_none_iff]
      intro k hk
      obtain ⟨j, hj⟩ := List.getElem?_of_mem hk
      have := hno j k (by have := (List.getElem?_eq_some_iff.1 hj).1; omega) hj
      simpa using this
    rw [this]
    rfl
theorem strs_cell (ss : List ByteArray) : ∀ u ∈ ss.map Value.string, u.oneCell' = true := by
  intro u hu
  obtain ⟨s, _, rfl⟩ := List.mem_map.1 hu
  rfl
theorem erase_parts {α : Type} (l : List α) (i : Nat) : l.take i ++ l.drop (i + 1) = l.eraseIdx i := (List.eraseIdx_eq_take_drop_succ l i).symm
/-- One of two lists, without the i-th. -/
theorem F28_spec {b1 b2 i : Nat} {ss ts : List ByteArray} {F : List HProp} {h : Heap} (hi : i < ss.length) (hl : ts.length = ss.length) (hm : ss.length < 1000000) (H : sat (listS b1 ss :: listS b2 ts :: F) h) :
    CallsH Try.prog 28 [.int .i64 (i : Int), ptrV b1, ptrV b2] h fun v h' => v = .tuple #[] ∧ sat (listS b1 (ss.eraseIdx i) :: listS b2 (ts.eraseIdx i) :: F) h' := by
  apply F28_ok
  unfold F28
  obtain ⟨a1, l1, c1, e1, H1⟩ := listS_open H
  obtain ⟨a2, l2, c2, e2, H2⟩ := listS_open (H1.mv 2)
  -- pt b2, ownS ts, pt b1, ownS ss
  have n1 := (ownS_len (H2.mv 3)).2.1
  have n2 := (ownS_len (H2.mv 1)).2.1
  refine LdV (v := .slice a1 l1 c1) (H2.mv 2).get rfl ?_
  rw [DSl_slice]
  refine SlV_nat (lo := 0) (hi := i) (mx := c1) (Nat.zero_le _) (by omega) (Nat.le_refl _) ?_
  refine LdV (v := .slice a1 l1 c1) (H2.mv 2).get rfl ?_
  rw [DSl_slice, wrap64_succ (by omega)]
  refine SlV_nat (lo := i + 1) (hi := l1) (mx := c1) (by omega) n1 (Nat.le_refl _) ?_
  refine Al_sat H2 fun b3 h3 H3 => ?_
  refine ⟨LdV (v := .slice a1 l1 c1) (H3.mv 3).get rfl (by rw [DSl_slice]; rfl), rfl, SlV_nat (lo := 0) (hi := i) (mx := c1) (Nat.zero_le _) (by omega) (Nat.le_refl _) rfl, LdV (v := .slice a1 l1 c1) (H3.mv 3).get rfl (by rw [DSl_slice]; rfl), rfl, rfl,
    SlV_nat (lo := i + 1) (hi := l1) (mx := c1) (by omega) n1 (Nat.le_refl _) rfl, ?_⟩
  rw [subA_zero, Nat.sub_zero, Nat.sub_zero]
  have K3 : sat (ownS 9 1 (some ⟨b3, 0, none⟩) 0 0 (([] : List ByteArray).map Value.string) :: pt b2 (.cells #[.slice a2 l2 c2] 41 (0, 0)) :: ownS 9 1 a2 l2 c2 (ts.map Value.string) :: pt b1 (.cells #[.slice a1 l1 c1] 41 (0, 0)) :: ownS 9 1 a1 l1 c1 (ss.map Value.string) :: F) h3 :=
    ownS_mk H3 (fun i hi => by simp at hi) (Nat.le_refl _) (Nat.zero_le _) rfl rfl
  have r1 : RdC h3 a1 ((ss.take i).map Value.string) := by
    have := (ownS_read (K3.mv 4)).sub 0 i c1 (by omega)
    rwa [subA_zero, List.drop_zero, ← List.map_take] at this
  refine append1 (b := 16) u41 src41 inf9 K3 (srcOf_slice (n := i) (c := c1) r1 (by rw [List.length_map, List.length_take]; omega)) (strs_cell _) (by omega) fun a4 c4 h4 _ H4 => ?_
  rw [DSl_slice]
  refine ⟨LdV (v := .slice a1 l1 c1) (H4.mv 3).get rfl (by rw [DSl_slice]; rfl), rfl, rfl, SlV_nat (lo := i + 1) (hi := l1) (mx := c1) (by omega) n1 (Nat.le_refl _) rfl, ?_⟩
  have r2 : RdC h4 (subA a1 (i + 1) c1 1) ((ss.drop (i + 1)).map Value.string) := by
    have := (ownS_read (H4.mv 4)).sub (i + 1) (l1 - (i + 1)) c1 (by omega)
    rwa [← List.map_drop, ← List.map_take, List.take_of_length_le (by rw [List.length_drop]; omega)] at this
  refine append1 (b := 16) u41 src41 inf9 H4 (srcOf_slice (n := l1 - (i + 1)) (c := c1 - (i + 1)) r2 (by rw [List.length_map, List.length_drop]; omega)) (strs_cell _) (by omega) fun a5 c5 h5 _ H5 => ?_
  rw [DSl_slice, addr_add0]
  refine stV (H5.mv 3) fun h6 H6 => ?_
  -- pt b1, ownS new, pt b2, ownS ts, ownS ss
  have es : (([] : List ByteArray).map Value.string ++ (ss.take i).map Value.string) ++ (ss.drop (i + 1)).map Value.string = (ss.eraseIdx i).map Value.string := by
    rw [← erase_parts, List.map_append]
    rfl
  rw [es] at H6
  have G0 := listS_shut H6
  -- listS b1, pt b2, ownS ts, ownS ss
  have G1 : sat (pt b2 (.cells #[.slice a2 l2 c2] 41 (0, 0)) :: ownS 9 1 a2 l2 c2 (ts.map Value.string) :: listS b1 (ss.eraseIdx i) :: F) h6 := G0.ordT 4 [1, 2, 0]
  refine LdV (v := .slice a2 l2 c2) G1.get rfl ?_
  rw [DSl_slice]
  refine SlV_nat (lo := 0) (hi := i) (mx := c2) (Nat.zero_le _) (by omega) (Nat.le_refl _) ?_
  refine LdV (v := .slice a2 l2 c2) G1.get rfl ?_
  rw [DSl_slice]
  refine SlV_nat (lo := i + 1) (hi := l2) (mx := c2) (by omega) n2 (Nat.le_refl _) ?_
  refine Al_sat G1 fun b6 h7 G2 => ?_
  refine ⟨LdV (v := .slice a2 l2 c2) (G2.mv 1).get rfl (by rw [DSl_slice]; rfl), rfl, SlV_nat (lo := 0) (hi := i) (mx := c2) (Nat.zero_le _) (by omega) (Nat.le_refl _) rfl, LdV (v := .slice a2 l2 c2) (G2.mv 1).get rfl (by rw [DSl_slice]; rfl), rfl, rfl,
    SlV_nat (lo := i + 1) (hi := l2) (mx := c2) (by omega) n2 (Nat.le_refl _) rfl, ?_⟩
  rw [subA_zero, Nat.sub_zero, Nat.sub_zero]
  have G3 : sat (ownS 9 1 (some ⟨b6, 0, none⟩) 0 0 (([] : List ByteArray).map Value.string) :: pt b2 (.cells #[.slice a2 l2 c2] 41 (0, 0)) :: ownS 9 1 a2 l2 c2 (ts.map Value.string) :: listS b1 (ss.eraseIdx i) :: F) h7 :=
    ownS_mk G2 (fun i hi => by simp at hi) (Nat.le_refl _) (Nat.zero_le _) rfl rfl
  have r3 : RdC h7 a2 ((ts.take i).map Value.string) := by
    have := (ownS_read (G3.mv 2)).sub 0 i c2 (by omega)
    rwa [subA_zero, List.drop_zero, ← List.map_take] at this
  refine append1 (b := 16) u41 src41 inf9 G3 (srcOf_slice (n := i) (c := c2) r3 (by rw [List.length_map, List.length_take]; omega)) (strs_cell _) (by omega) fun a7 c7 h8 _ G4 => ?_
  rw [DSl_slice]
  refine ⟨LdV (v := .slice a2 l2 c2) (G4.mv 1).get rfl (by rw [DSl_slice]; rfl), rfl, rfl, SlV_nat (lo := i + 1) (hi := l2) (mx := c2) (by omega) n2 (Nat.le_refl _) rfl, ?_⟩
  have r4 : RdC h8 (subA a2 (i + 1) c2 1) ((ts.drop (i + 1)).map Value.string) := by
    have := (ownS_read (G4.mv 2)).sub (i + 1) (l2 - (i + 1)) c2 (by omega)
    rwa [← List.map_drop, ← List.map_take, List.take_of_length_le (by rw [List.length_drop]; omega)] at this
  refine append1 (b := 16) u41 src41 inf9 G4 (srcOf_slice (n := l2 - (i + 1)) (c := c2 - (i + 1)) r4 (by rw [List.length_map, List.length_drop]; omega)) (strs_cell _) (by omega) fun a8 c8 h9 _ G5 => ?_
  rw [DSl_slice, addr_add0]
  refine stV (G5.mv 1) fun h10 G6 => ?_
  have et : (([] : List ByteArray).map Value.string ++ (ts.take i).map Value.string) ++ (ts.drop (i + 1)).map Value.string = (ts.eraseIdx i).map Value.string := by
    rw [← erase_parts, List.map_append]
    rfl
  rw [et] at G6
  exact ⟨rfl, (listS_shut G6).ordT 3 [2, 0]⟩

end Go.Proofs.Yticjjdhaikbdaaa

namespace Go.Proofs.Yticjjdhaikbdaaa
open Go
set_option linter.unusedVariables false
set_option linter.unusedSimpArgs false

namespace AF
abbrev Tab := List (ByteArray × ByteArray)
def One (room steps : Nat) (files : List File) (now base : Names) (pend : List Op) : FS := ⟨room, steps, none, false, files, [⟨dN, now, base, pend⟩]⟩
def conts (files : List File) (now : Names) : List (ByteArray × List Nat) := now.map fun p => (p.1, (files.getD p.2 default).b)
def tabT (T : Tab) : List (ByteArray × List Nat) := T.map fun e => (e.1, sb e.2)
structure Rel (room steps : Nat) (files : List File) (now base : Names) (pend : List Op) (T : Tab) : Prop where
  wf : (One room steps files now base pend).WF
  perm : (conts files now).Perm (tabT T)
section
variable {room steps : Nat} {files : List File} {now base : Names} {pend : List Op} {T : Tab}
theorem one_dir (R : Rel room steps files now base pend T) : Dir.WF files.length steps ⟨dN, now, base, pend⟩ := R.wf.each _ (by simp [One])
theorem Rel.ok (R : Rel room steps files now base pend T) : Ok files.length now := (one_dir R).ok
theorem ready1 (ss : List ByteArray) : (One room steps files now base pend).ready dN ss = if ss.all right = true then .ok 0 else .error 65 := by
  unfold FS.ready FS.named
  have h1 : right dN = true := by decide
  have h2 : (One room steps files now base pend).at dN = some 0 := rfl
  rw [h1, Bool.true_and, h2]
  rfl
theorem keys_eq : (conts files now).map (·.1) = now.map (·.1) := by unfold conts; rw [List.map_map]; rfl
theorem tab_keys (T : Tab) : (tabT T).map (·.1) = T.map (·.1) := by unfold tabT; rw [List.map_map]; rfl
theorem Rel.keys (R : Rel room steps files now base pend T) : (now.map (·.1)).Perm (T.map (·.1)) := by
  have := R.perm.map (·.1)
  rwa [keys_eq, tab_keys] at this
theorem Rel.nodup (R : Rel room steps files now base pend T) : (T.map (·.1)).Nodup := R.keys.nodup_iff.1 R.ok.up.nodup
theorem Rel.length (R : Rel room steps files now base pend T) : T.length = now.length := by have := R.keys.length_eq; simpa using this.symm
theorem key_none {k : ByteArray} (h : ∀ e ∈ T, e.1 ≠ k) : (T.map (·.1)).findIdx? (fun s => decide (s = k)) = none := by
  rw [List.findIdx?_eq_none_iff]
  intro s hs
  obtain ⟨e, he, rfl⟩ := List.mem_map.1 hs
  simpa using h e he
theorem key_some (hn : (T.map (·.1)).Nodup) {k d : ByteArray} {i : Nat} (h : T[i]? = some (k, d)) : (T.map (·.1)).findIdx? (fun s => decide (s = k)) = some i := by
  have hi : (T.map (·.1))[i]? = some k := by rw [List.getElem?_map, h]; rfl
  rw [List.findIdx?_eq_some_iff_getElem]
  obtain ⟨hl, he⟩ := List.getElem?_eq_some_iff.1 hi
  refine ⟨hl, by simpa using he, fun j hj => ?_⟩
  have := List.pairwise_iff_getElem.1 hn j i (by omega) hl hj
  rw [he] at this
  simpa using this
theorem Rel.none (R : Rel room steps files now base pend T) {k : ByteArray} (h : of now k = none) : ∀ e ∈ T, e.1 ≠ k := by
  intro e he hk
  have : k ∈ T.map (·.1) := List.mem_map.2 ⟨e, he, hk⟩
  obtain ⟨p, hp, hk2⟩ := List.mem_map.1 (R.keys.mem_iff.2 this)
  exact of_none h p hp hk2
theorem Rel.some (R : Rel room steps files now base pend T) {k : ByteArray} {x : Nat} (h : of now k = some x) : ∃ (i : Nat) (d : ByteArray), T[i]? = some (k, d) ∧ sb d = (files.getD x default).b := by
  have h1 : (k, (files.getD x default).b) ∈ conts files now := List.mem_map.2 ⟨(k, x), of_mem h, rfl⟩
  obtain ⟨e, he, hk⟩ := List.mem_map.1 (R.perm.mem_iff.1 h1)
  simp only [Prod.mk.injEq] at hk
  obtain ⟨i, hi⟩ := List.getElem?_of_mem he
  obtain ⟨ek, ed⟩ := e
  simp only at hk
  exact ⟨i, ed, by rw [hi, hk.1], hk.2⟩
theorem erase_filt (hn : (T.map (·.1)).Nodup) {k d : ByteArray} {i : Nat} (h : T[i]? = some (k, d)) : T.eraseIdx i = T.filter fun e => !decide (e.1 = k) := by
  induction T generalizing i with
  | nil => simp at h
  | cons p T ih =>
    simp only [List.map_cons, List.nodup_cons] at hn
    cases i with
    | zero =>
      simp only [List.getElem?_cons_zero, Option.some.injEq] at h
      subst h
      rw [List.eraseIdx_cons_zero, List.filter_cons, if_neg (by simp)]
      symm
      refine List.filter_eq_self.2 fun q hq => ?_
      have : q.1 ≠ k := fun e => hn.1 (by rw [← e]; exact List.mem_map.2 ⟨q, hq, rfl⟩)
      simpa using this
    | succ i =>
      have h' : T[i]? = some (k, d) := by simpa using h
      have hp : p.1 ≠ k := fun e => hn.1 (by rw [e]; exact List.mem_map.2 ⟨(k, d), List.mem_of_getElem? h', rfl⟩)
      rw [List.eraseIdx_cons_succ, List.filter_cons, if_pos (by simpa using hp), ih hn.2 h']
theorem set_map (hn : (T.map (·.1)).Nodup) {k d d' : ByteArray} {i : Nat} (h : T[i]? = some (k, d)) : T.set i (k, d') = T.map fun e => if e.1 = k then (k, d') else e := by
  induction T generalizing i with
  | nil => simp at h
  | cons p T ih =>
    simp only [List.map_cons, List.nodup_cons] at hn
    cases i with
    | zero =>
      simp only [List.getElem?_cons_zero, Option.some.injEq] at h
      subst h
      rw [List.set_cons_zero, List.map_cons, if_pos rfl]
      congr 1
      conv => lhs; rw [← List.map_id T]
      refine List.map_congr_left fun q hq => ?_
      have : q.1 ≠ k := fun e => hn.1 (by rw [← e]; exact List.mem_map.2 ⟨q, hq, rfl⟩)
      simp [this]
    | succ i =>
      have h' : T[i]? = some (k, d) := by simpa using h
      have hp : p.1 ≠ k := fun e => hn.1 (by rw [e]; exact List.mem_map.2 ⟨(k, d), List.mem_of_getElem? h', rfl⟩)
      rw [List.set_cons_succ, List.map_cons, if_neg hp, ih hn.2 h']
/-- What a call does: nothing, or its work. -/
def Outc (room steps : Nat) (files : List File) (now base : Names) (pend : List Op) (r : FS × Nat) (P : (steps : Nat) → List File → Names → Names → List Op → Prop) : Prop :=
  (∃ e, e ≠ 0 ∧ r = (One room steps files now base pend, e)) ∨ ∃ files' now' base' pend', r = (One room (steps + 1) files' now' base' pend', 0) ∧ P (steps + 1) files' now' base' pend'
theorem conts_drop (l : Names) (k : ByteArray) : conts files (drop l k) = (conts files l).filter fun e => !decide (e.1 = k) := by
  unfold conts drop
  rw [List.filter_map]
  rfl
theorem tab_filter (T : Tab) (k : ByteArray) : tabT (T.filter fun e => !decide (e.1 = k)) = (tabT T).filter fun e => !decide (e.1 = k) := by
  unfold tabT
  rw [List.filter_map]
  rfl
theorem create_out (R : Rel room steps files now base pend T) (k : ByteArray) : Outc room steps files now base pend ((One room steps files now base pend).create dN k) fun s f n b p => (∀ e ∈ T, e.1 ≠ k) ∧ Rel room s f n b p (T ++ [(k, .empty)]) := by
  have W2 := R.wf.create dN k
  unfold FS.create at W2 ⊢
  rw [ready1] at W2 ⊢
  split at W2
  · rename_i e he
    refine .inl ⟨e, ?_, rfl⟩
    split at he <;> cases he
    decide
  · rename_i i he
    have hi : i = 0 := by split at he <;> cases he; rfl
    subst hi
    split at W2
    · rename_i h1
      rw [if_pos h1]
      exact .inl ⟨63, by decide, rfl⟩
    · rename_i h1
      rw [if_neg h1]
      split at W2
      · rename_i h2
        rw [if_pos h2]
        exact .inl ⟨66, by decide, rfl⟩
      · rename_i h2
        rw [if_neg h2]
        have hno : of now k = Option.none := by
          cases ho : of now k with
          | none => rfl
          | some x => exact absurd (by show (of now k).isSome = true; rw [ho]; rfl) h1
        have W3 : (One room (steps + 1) (files ++ [(⟨[], 0⟩ : File)]) (ins k files.length now) base (pend ++ [Op.create k files.length])).WF := W2
        refine .inr ⟨files ++ [(⟨[], 0⟩ : File)], ins k files.length now, base, pend ++ [Op.create k files.length], rfl, R.none hno, W3, ?_⟩
        have hp : (ins k files.length now).Perm ((k, files.length) :: now) := by
          have := ins_perm (n := k) (f := files.length) R.ok.up
          rwa [drop_none (of_none hno)] at this
        have h3 : (conts (files ++ [⟨[], 0⟩]) (ins k files.length now)).Perm (conts (files ++ [⟨[], 0⟩]) ((k, files.length) :: now)) := hp.map _
        refine h3.trans ?_
        have h4 : conts (files ++ [⟨[], 0⟩]) ((k, files.length) :: now) = (k, []) :: conts files now := by
          unfold conts
          rw [List.map_cons]
          congr 1
          · simp [List.getD_eq_getElem?_getD]
          · refine List.map_congr_left fun p hp => ?_
            have := (R.ok.each p hp).1
            rw [List.getD_eq_getElem?_getD, List.getD_eq_getElem?_getD, List.getElem?_append_left this]
        rw [h4]
        have h5 : tabT (T ++ [(k, .empty)]) = tabT T ++ [(k, [])] := by unfold tabT; rw [List.map_append]; rfl
        rw [h5]
        exact (R.perm.cons _).trans (List.perm_append_comm (l₁ := [(k, [])]))
theorem entry1 (k : ByteArray) : (∃ e, e ≠ 0 ∧ (One room steps files now base pend).entry dN k = .error e) ∨ ∃ x, of now k = some x ∧ right k = true ∧ (One room steps files now base pend).entry dN k = .ok (0, x) := by
  unfold FS.entry
  rw [ready1]
  by_cases hr : [k].all right = true
  · rw [if_pos hr]
    cases ho : of now k with
    | none => exact .inl ⟨62, by decide, by simp only [show ((One room steps files now base pend).D 0).now = now from rfl, ho]⟩
    | some x => exact .inr ⟨x, rfl, by simpa using hr, by simp only [show ((One room steps files now base pend).D 0).now = now from rfl, ho]⟩
  · rw [if_neg hr]
    exact .inl ⟨65, by decide, rfl⟩
theorem append_out (R : Rel room steps files now base pend T) (k s : ByteArray) : Outc room steps files now base pend ((One room steps files now base pend).append dN k (sb s)) fun st f n b p => ∃ (i : Nat) (d : ByteArray), T[i]? = some (k, d) ∧ d.size + s.size ≤ 16777216 ∧ Rel room st f n b p (T.set i (k, d ++ s)) := by
  have W2 := R.wf.append dN k (sb_B8 s)
  unfold FS.append at W2 ⊢
  rcases entry1 (room := room) (steps := steps) (files := files) (now := now) (base := base) (pend := pend) k with ⟨e, he0, he⟩ | ⟨x, ho, _, he⟩
  · rw [he]
    exact .inl ⟨e, he0, rfl⟩
  · rw [he] at W2 ⊢
    simp only at W2 ⊢
    split at W2
    · rename_i h1
      rw [if_pos h1]
      exact .inl ⟨67, by decide, rfl⟩
    · rename_i h1
      rw [if_neg h1]
      split at W2
      · rename_i h2
        rw [if_pos h2]
        exact .inl ⟨64, by decide, rfl⟩
      · rename_i h2
        rw [if_neg h2]
        obtain ⟨i, d, hi, hd⟩ := R.some ho
        have hxl : x < files.length := (R.ok.each _ (of_mem ho)).1
        refine .inr ⟨files.modify x fun y => { y with b := y.b ++ sb s }, now, base, pend, rfl, i, d, hi, ?_, W2, ?_⟩
        · have e1 : (files.getD x default).b.length = d.size := by rw [← hd, sb_length]
          have : ¬ 16777216 < (files.getD x default).b.length + (sb s).length := h1
          rw [e1, sb_length] at this
          omega
        · rw [set_map R.nodup hi]
          have e1 : tabT (T.map fun e => if e.1 = k then (k, d ++ s) else e) = (tabT T).map fun e => if e.1 = k then (k, sb d ++ sb s) else e := by
            unfold tabT
            rw [List.map_map, List.map_map]
            refine List.map_congr_left fun e he => ?_
            simp only [Function.comp]
            split
            · rw [sb_append]
            · rfl
          have e2 : conts (files.modify x fun y => { y with b := y.b ++ sb s }) now = (conts files now).map fun e => if e.1 = k then (k, sb d ++ sb s) else e := by
            unfold conts
            rw [List.map_map]
            refine List.map_congr_left fun p hp => ?_
            simp only [Function.comp]
            have hpx : p.1 = k ↔ p.2 = x := by
              constructor
              · intro e
                have h3 : of now k = some p.2 := mem_of R.ok.up.nodup (by rw [← e]; exact hp)
                rw [ho] at h3
                exact (Option.some.inj h3).symm
              · intro e
                obtain ⟨j, hj⟩ := List.getElem?_of_mem hp
                obtain ⟨j2, hj2⟩ := List.getElem?_of_mem (of_mem ho)
                have a1 : (now.map (·.2))[j]? = some x := by rw [List.getElem?_map, hj, ← e]; rfl
                have a2 : (now.map (·.2))[j2]? = some x := by rw [List.getElem?_map, hj2]; rfl
                have := nodup_inj R.ok.once a1 a2
                rw [this, hj2] at hj
                exact (congrArg Prod.fst (Option.some.inj hj)).symm
            have hpl := (R.ok.each p hp).1
            rw [List.getD_eq_getElem?_getD, get_modify, List.getElem?_eq_getElem hpl, List.getD_eq_getElem?_getD, List.getElem?_eq_getElem hpl]
            by_cases hk : p.1 = k
            · have hx2 := hpx.1 hk
              rw [if_pos hk]
              simp only [Option.map_some, Option.getD_some, hx2, if_true]
              rw [hk, hd, List.getD_eq_getElem?_getD, List.getElem?_eq_getElem hxl]
              subst hx2
              rfl
            · have hx2 : ¬ x = p.2 := fun e => hk (hpx.2 e.symm)
              rw [if_neg hk]
              simp only [Option.map_some, Option.getD_some, if_neg hx2]
          rw [e1, e2]
          exact R.perm.map _
theorem remove_out (R : Rel room steps files now base pend T) (k : ByteArray) : Outc room steps files now base pend ((One room steps files now base pend).remove dN k) fun st f n b p => ∃ (i : Nat) (d : ByteArray), T[i]? = some (k, d) ∧ Rel room st f n b p (T.eraseIdx i) := by
  have W2 := R.wf.remove dN k
  unfold FS.remove at W2 ⊢
  rcases entry1 (room := room) (steps := steps) (files := files) (now := now) (base := base) (pend := pend) k with ⟨e, he0, he⟩ | ⟨x, ho, _, he⟩
  · rw [he]
    exact .inl ⟨e, he0, rfl⟩
  · rw [he] at W2 ⊢
    simp only at W2 ⊢
    obtain ⟨i, d, hi, hd⟩ := R.some ho
    have W3 : (One room (steps + 1) files (drop now k) base (pend ++ [Op.remove k])).WF := W2
    refine .inr ⟨files, drop now k, base, pend ++ [Op.remove k], rfl, i, d, hi, W3, ?_⟩
    rw [erase_filt R.nodup hi, conts_drop, tab_filter]
    exact R.perm.filter _
theorem filter_none {k : ByteArray} (h : ∀ e ∈ T, e.1 ≠ k) : (T.filter fun e => !decide (e.1 = k)) = T := List.filter_eq_self.2 fun e he => by simpa using h e he
theorem rename_out (R : Rel room steps files now base pend T) (a b : ByteArray) : Outc room steps files now base pend ((One room steps files now base pend).rename dN a b) fun st f n bs p => ∃ (i : Nat) (d : ByteArray), T[i]? = some (a, d) ∧
    (((∀ e ∈ T.eraseIdx i, e.1 ≠ b) ∧ Rel room st f n bs p (T.eraseIdx i ++ [(b, d)])) ∨ ∃ (j : Nat) (d2 : ByteArray), (T.eraseIdx i)[j]? = some (b, d2) ∧ Rel room st f n bs p ((T.eraseIdx i).eraseIdx j ++ [(b, d)])) := by
  have W2 := R.wf.rename dN a b
  unfold FS.rename at W2 ⊢
  rw [ready1] at W2 ⊢
  split at W2
  · rename_i e he
    refine .inl ⟨e, ?_, rfl⟩
    split at he <;> cases he
    decide
  · rename_i i he
    have hi0 : i = 0 := by split at he <;> cases he; rfl
    subst hi0
    split at W2
    · rename_i h1
      rw [if_pos h1]
      exact .inl ⟨62, by decide, rfl⟩
    · rename_i h1
      rw [if_neg h1]
      obtain ⟨x, ho⟩ : ∃ x, of now a = some x := by
        cases ho : of now a with
        | none => exact absurd (by show (of now a).isNone = true; rw [ho]; rfl) h1
        | some x => exact ⟨x, rfl⟩
      obtain ⟨i, d, hi, hd⟩ := R.some ho
      have hdo : does now (.rename a b) = ins b x (drop now a) := by simp only [does, ho]
      have hn2 : ((T.eraseIdx i).map (·.1)).Nodup := by rw [erase_filt R.nodup hi]; exact List.Pairwise.sublist (List.Sublist.map _ List.filter_sublist) R.nodup
      have hperm : (conts files (does now (.rename a b))).Perm (tabT (((T.eraseIdx i).filter fun e => !decide (e.1 = b)) ++ [(b, d)])) := by
        rw [hdo]
        have h2 : (conts files (ins b x (drop now a))).Perm (conts files ((b, x) :: drop (drop now a) b)) := (ins_perm (n := b) (f := x) (R.ok.up.drop a)).map _
        refine h2.trans ?_
        have h3 : conts files ((b, x) :: drop (drop now a) b) = (b, sb d) :: conts files (drop (drop now a) b) := by rw [hd]; rfl
        have h4 : tabT (((T.eraseIdx i).filter fun e => !decide (e.1 = b)) ++ [(b, d)]) = tabT ((T.eraseIdx i).filter fun e => !decide (e.1 = b)) ++ [(b, sb d)] := by unfold tabT; rw [List.map_append]; rfl
        rw [h3, h4]
        refine List.Perm.trans (.cons _ ?_) (List.perm_append_comm (l₁ := [(b, sb d)]))
        rw [conts_drop, conts_drop, tab_filter, erase_filt R.nodup hi, tab_filter]
        exact (R.perm.filter _).filter _
      have W3 : (One room (steps + 1) files (does now (Op.rename a b)) base (pend ++ [Op.rename a b])).WF := W2
      refine .inr ⟨files, does now (Op.rename a b), base, pend ++ [Op.rename a b], rfl, i, d, hi, ?_⟩
      by_cases hb : ∃ e ∈ T.eraseIdx i, e.1 = b
      · obtain ⟨⟨eb, d2⟩, hem, rfl⟩ := hb
        obtain ⟨j, hj⟩ := List.getElem?_of_mem hem
        refine .inr ⟨j, d2, hj, W3, ?_⟩
        rw [erase_filt hn2 hj]
        exact hperm
      · have hb2 : ∀ e ∈ T.eraseIdx i, e.1 ≠ b := fun e he hk => hb ⟨e, he, hk⟩
        refine .inl ⟨hb2, W3, ?_⟩
        rw [filter_none hb2] at hperm
        exact hperm
end
end AF

end Go.Proofs.Yticjjdhaikbdaaa

namespace Go.Proofs.Yticjjdhaikbdaaa
open Go Go.RowKit
set_option linter.unusedVariables false
set_option linter.unusedSimpArgs false

theorem push_tail {b0 : Nat} {a : Option Addr} {l c : Nat} {s : ByteArray} {ss : List ByteArray} {F : List HProp} {h : Heap} {K : Heap → Prop} (hb : ss.length < 1000000) (hl : l = ss.length)
    (H : sat (pt b0 (.cells #[.slice a l c] 41 (0, 0)) :: ownS 9 1 a l c (ss.map Value.string) :: F) h) (hK : ∀ h', sat (listS b0 (ss ++ [s]) :: F) h' → K h') :
    Al h (.cells #[.string s] 9) fun b3 h1 => RunH Try.prog (Builtin.append_ #[41, 41] 41 #[.slice a l c, .slice (some (Addr.mk b3 0 none)) 1 1]) h1 fun r h2 => DSl r fun ya yl yc => StC h2 ((Addr.mk b0 0 none).add 0) (.slice ya yl yc) K := by
  refine Al_sat H fun b3 h1 H1 => ?_
  refine append1 (b := 16) (ys := [.string s]) u41 src41 inf9 (H1.mv 2) (srcOf_slice (n := 1) (c := 1) (RdCv H1 rfl) rfl) (by simp [Value.oneCell']) (by omega) fun a2 c2 h2 _ H2 => ?_
  rw [DSl_slice, addr_add0]
  refine stV (H2.mv 2) fun h3 H3 => hK h3 ?_
  -- pt b0, ownS, pt b3
  have H4 := H3.ordT 3 [0, 1]
  have e : ss.map Value.string ++ [.string s] = (ss ++ [s]).map Value.string := by rw [List.map_append]; rfl
  rw [e] at H4
  exact listS_shut H4
def PInv (h : Heap) (b b0 b1 l : Nat) (st : Int) (hh : Heap) : Prop :=
  ∃ (i steps : Nat) (files : List AF.File) (now base : AF.Names) (pend : List AF.Op) (T : AF.Tab), st = ((i : Nat) : Int) ∧ i ≤ l ∧ i ≤ 100 ∧ steps ≤ i + 1 ∧ AF.Rel 268435456 steps files now base pend T ∧
    sat [fsP b (AF.One 268435456 steps files now base pend), listS b0 (T.map (·.1)), listS b1 (T.map (·.2)), old h] hh
theorem used_one {room steps : Nat} {files : List AF.File} {now base : AF.Names} {pend : List AF.Op} : (AF.One room steps files now base pend).used = (now.map fun p => (files.getD p.2 default).b.length).sum := by
  unfold AF.FS.used AF.FS.idx
  show ((([⟨dN, now, base, pend⟩] : List AF.Dir).flatMap fun d => d.now.map (·.2)).map _).sum = _
  rw [List.flatMap_cons, List.flatMap_nil, List.append_nil, List.map_map]
  rfl
theorem FsPlain_tail {h hh : Heap} {b b0 b1 steps : Nat} {files : List AF.File} {now base : AF.Names} {pend : List AF.Op} {T : AF.Tab} (R : AF.Rel 268435456 steps files now base pend T)
    (H : sat [fsP b (AF.One 268435456 steps files now base pend), listS b0 (T.map (·.1)), listS b1 (T.map (·.2)), old h] hh) :
    CallsH Try.prog 30 [.pointer (some ⟨b, 0, none⟩), .string ⟨#[100]⟩] hh fun r37 h_52 =>
              ∃ (x46a : Option Addr), ∃ (x46l : Nat), ∃ (x46c : Nat), ∃ (x47 : Int), r37 = .tuple #[.slice x46a x46l x46c, .int .i64 x47] ∧
              (bif (x47 : Int) != 0 then
                Good h (.bool false) h_52
              else
                Ld h_52 (Addr.mk b0 0 none) fun v24 => DSl v24 fun x48a x48l x48c =>
                (bif ((x46l : Int) : Int) != (x48l : Int) then
                  Good h (.bool false) h_52
                else
                  LoopH (fun again1 (s2 : Int × Int) h_53 =>
                    (bif decide ((s2.2 : Int) < (x46l : Int)) then
                      IdxA x46a x46l s2.2 1 fun a4 =>
                      Ld h_53 a4 fun v25 => DS v25 fun x49 =>
                      CallsH Try.prog 25 [.pointer (some ⟨b, 0, none⟩), .string ⟨#[100]⟩, .string x49] h_53 fun r38 h_54 =>
                      ∃ (x50a : Option Addr), ∃ (x50l : Nat), ∃ (x50c : Nat), ∃ (x51 : Int), r38 = .tuple #[.slice x50a x50l x50c, .int .i64 x51] ∧
                      IdxA x46a x46l s2.2 1 fun a5 =>
                      Ld h_54 a5 fun v26 => DS v26 fun x52 =>
                      CallsH Try.prog 27 [.string x52, .pointer (some (Addr.mk b0 0 none))] h_54 fun r39 h_55 =>
                      DI .i64 r39 fun at_1 =>
                      (bif (x51 : Int) != 0 then
                        Good h (.bool false) h_55
                      else
                        (bif decide ((at_1 : Int) < 0) then
                          Good h (.bool false) h_55
                        else
                          ∃ bs0 : ByteArray, BytesIn h_55 x50a x50l bs0 ∧
                          Ld h_55 (Addr.mk b1 0 none) fun v27 => DSl v27 fun x53a x53l x53c =>
                          IdxA x53a x53l at_1 1 fun a6 =>
                          Ld h_55 a6 fun v28 => DS v28 fun x54 =>
                          (bif !strEq bs0 x54 then
                            Good h (.bool false) h_55
                          else
                            (bif decide ((s2.2 : Int) > 0) then
                              IdxA x46a x46l (IntKind.wrap .i64 (s2.2 - 1)) 1 fun a7 =>
                              Ld h_55 a7 fun v29 => DS v29 fun x55 =>
                              IdxA x46a x46l s2.2 1 fun a8 =>
                              Ld h_55 a8 fun v30 => DS v30 fun x56 =>
                              (bif !strLt x55 x56 then
                                Good h (.bool false) h_55
                              else
                                again1 (IntKind.wrap .i64 (s2.1 + (x50l : Int)), IntKind.wrap .i64 (s2.2 + 1)) h_55)
                            else
                              again1 (IntKind.wrap .i64 (s2.1 + (x50l : Int)), IntKind.wrap .i64 (s2.2 + 1)) h_55))))
                    else
                      CallsH Try.prog 31 [.pointer (some ⟨b, 0, none⟩)] h_53 fun r40 h_56 =>
                      DI .i64 r40 fun x57 =>
                      Good h (.bool ((x57 : Int) == s2.1)) h_56)) (0, 0) h_52)) := by
  have W := R.wf
  have hnow := R.ok
  have hfew := hnow.few
  have hTl := R.length
  have eli : (AF.One 268435456 steps files now base pend).list dN = .ok (now.map (·.1)) := by
    unfold AF.FS.list
    rw [AF.ready1]
    rfl
  refine (F30_spec W (dir := dN) (by decide) H).mono ?_
  rintro v h1 (⟨ks, a, c, hl, hright, hkl, rfl, H1⟩ | ⟨e, hl, _⟩)
  · rw [eli] at hl
    cases hl
    refine ⟨a, (now.map (·.1)).length, c, 0, rfl, ?_⟩
    rw [show ((0 : Int) != 0) = false from rfl, cond_false]
    -- ownS ks, fsP, listS, listS, old
    obtain ⟨na, nl, nc, hnl, H2⟩ := listS_open (H1.mv 2)
    refine LdV (v := .slice na nl nc) H2.get rfl ?_
    have hnl2 : nl = (now.map (·.1)).length := by rw [hnl, List.length_map, List.length_map, hTl]
    rw [DSl_slice, show (((((now.map (·.1)).length : Nat) : Int)) != (nl : Int)) = false by rw [hnl2]; exact bne_self_eq_false _, cond_false]
    -- pt b0, ownS names, ownS ks, fsP, listS b1, old
    have H3 := (listS_shut H2).ordT 4 [1, 2, 0, 3]
    rw [List.length_map] at H3
    have H4 : sat [ownS 9 1 a now.length c ((now.map (·.1)).map Value.string), fsP b (AF.One 268435456 steps files now base pend), listS b0 (T.map (·.1)), listS b1 (T.map (·.2)), old h] h1 := H3
    rw [List.length_map]
    refine ⟨fun st hx => ∃ i : Nat, st = (((((now.take i).map fun p => (files.getD p.2 default).b.length).sum : Nat) : Int), (i : Int)) ∧ i ≤ now.length ∧ sat [ownS 9 1 a now.length c ((now.map (·.1)).map Value.string), fsP b (AF.One 268435456 steps files now base pend), listS b0 (T.map (·.1)), listS b1 (T.map (·.2)), old h] hx,
      fun st _ => ((now.length : Int) - st.2).toNat, ⟨0, rfl, Nat.zero_le _, H4⟩, ?_⟩
    rintro st h2 ⟨i, rfl, hi, H5⟩
    have hkr := ownS_read H5
    by_cases hlt : i < now.length
    · rw [decide_eq_true (show ((i : Int) < (now.length : Int)) by omega), cond_true]
      obtain ⟨p, hp⟩ : ∃ p, now[i]? = some p := ⟨_, List.getElem?_eq_getElem hlt⟩
      have hpm := List.mem_of_getElem? hp
      have hkc : ((now.map (·.1)).map Value.string)[i]? = some (.string p.1) := by rw [List.getElem?_map, List.getElem?_map, hp]; rfl
      refine IdxA_nat (v := .string p.1) hkr (by rw [List.length_map, List.length_map]) hkc fun ba hba hc => ⟨_, hc, ?_⟩
      show DS (.string p.1) _
      rw [DS_string]
      have hpr := right_size (hnow.each p hpm).2
      have erd : (AF.One 268435456 steps files now base pend).read dN p.1 = .ok (files.getD p.2 default).b := by
        unfold AF.FS.read AF.FS.entry
        rw [AF.ready1, if_pos (by simpa using (hnow.each p hpm).2)]
        simp only [show ((AF.One 268435456 steps files now base pend).D 0).now = now from rfl, AF.mem_of hnow.up.nodup (f := p.2) hpm]
        rfl
      refine (F25_spec W (dir := dN) (name := p.1) (by decide) (by omega) (H5.mv 1)).mono ?_
      rintro v h3 (⟨bs, ra, rc, hr, hb8, hbl, rfl, H6⟩ | ⟨e, hr, _⟩)
      · rw [erd] at hr
        cases hr
        generalize hbs : (files.getD p.2 default).b = bs at hb8 hbl H6
        refine ⟨ra, bs.length, rc, 0, rfl, ?_⟩
        -- ownS bs, fsP, ownS ks, listS, listS, old
        have hkr2 := ownS_read (H6.mv 2)
        refine IdxA_nat (v := .string p.1) hkr2 (by rw [List.length_map, List.length_map]) hkc fun ba2 hba2 hc2 => ⟨_, hc2, ?_⟩
        show DS (.string p.1) _
        rw [DS_string]
        refine (F27_spec (by rw [List.length_map]; omega) (H6.mv 3)).mono ?_
        rintro v h4 ⟨rfl, rfl⟩
        obtain ⟨j, d, hj, hd⟩ := R.some (AF.mem_of hnow.up.nodup (f := p.2) hpm)
        rw [DI_int, AF.key_some R.nodup hj, show ((0 : Int) != 0) = false from rfl, cond_false]
        show bif decide (((j : Nat) : Int) < 0) then _ else _
        rw [decide_eq_false (by omega), cond_false]
        refine ⟨ofN bs, bytesIn_of (ownS_read H6) rfl hb8, ?_⟩
        obtain ⟨da, dl, dc, hdl, H7⟩ := listS_open (H6.mv 4)
        refine LdV (v := .slice da dl dc) H7.get rfl ?_
        rw [DSl_slice]
        refine IdxA_nat (i := j) (v := .string d) (ownS_read (H7.mv 1)) (by rw [List.length_map]; omega) (by rw [List.getElem?_map, List.getElem?_map, hj]; rfl) fun ba3 hba3 hc3 => ⟨_, hc3, ?_⟩
        show DS (.string d) _
        rw [DS_string, show strEq (ofN bs) d = true from by rw [strEq_of hb8, hd, hbs]; simp, Bool.not_true, cond_false]
        have onward : (∃ k : Nat, (IntKind.wrap .i64 (((((now.take i).map fun p => (files.getD p.2 default).b.length).sum : Nat) : Int) + (bs.length : Int)), IntKind.wrap .i64 ((i : Int) + 1)) = ((((((now.take k).map fun p => (files.getD p.2 default).b.length).sum : Nat) : Int), (k : Int)) : Int × Int) ∧ k ≤ now.length ∧
            sat [ownS 9 1 a now.length c ((now.map (·.1)).map Value.string), fsP b (AF.One 268435456 steps files now base pend), listS b0 (T.map (·.1)), listS b1 (T.map (·.2)), old h] h4) ∧ ((now.length : Int) - IntKind.wrap .i64 ((i : Int) + 1)).toNat < ((now.length : Int) - (i : Int)).toNat := by
          have hsum : ((now.take (i + 1)).map fun p => (files.getD p.2 default).b.length).sum = ((now.take i).map fun p => (files.getD p.2 default).b.length).sum + bs.length := by
            rw [List.take_add_one, hp]
            simp [← hbs]
          have hbound : ((now.take i).map fun p => (files.getD p.2 default).b.length).sum ≤ 68719476736 := by
            have h1 := AF.sum_le (l := (now.take i).map fun p => (files.getD p.2 default).b.length) (k := 16777216) fun y hy => by
              obtain ⟨p, _, rfl⟩ := List.mem_map.1 hy
              exact (AF.getD_ok W.files p.2).2.1
            rw [List.length_map, List.length_take] at h1
            exact Nat.le_trans h1 (Nat.le_trans (Nat.mul_le_mul_right 16777216 (show min i now.length ≤ 4096 by omega)) (by decide))
          refine ⟨⟨i + 1, ?_, by omega, H6.ordT 5 [2, 1, 3, 4]⟩, by rw [wrap64_succ (by omega)]; omega⟩
          rw [wrap64_succ (by omega), hsum, ← Int.natCast_add, wrap64_nat (by omega)]
        by_cases hi0 : i = 0
        · subst hi0
          rw [decide_eq_false (by omega), cond_false]
          exact onward
        · rw [decide_eq_true (by omega), cond_true]
          obtain ⟨p0, hp0⟩ : ∃ p0, now[i - 1]? = some p0 := ⟨_, List.getElem?_eq_getElem (by omega)⟩
          have w1 : IntKind.wrap .i64 ((i : Int) - 1) = ((i - 1 : Nat) : Int) := by
            rw [IntWalk.i64_in _ (by omega)]
            omega
          rw [w1]
          refine IdxA_nat (v := .string p0.1) hkr2 (by rw [List.length_map, List.length_map]) (by rw [List.getElem?_map, List.getElem?_map, hp0]; rfl) fun ba4 hba4 hc4 => ⟨_, hc4, ?_⟩
          show DS (.string p0.1) _
          rw [DS_string]
          refine IdxA_nat (v := .string p.1) hkr2 (by rw [List.length_map, List.length_map]) hkc fun ba5 hba5 hc5 => ⟨_, hc5, ?_⟩
          show DS (.string p.1) _
          rw [DS_string]
          have hlt2 : strLt p0.1 p.1 = true := by
            rw [AF.strLt_eq]
            obtain ⟨g1, e1⟩ := List.getElem?_eq_some_iff.1 hp0
            obtain ⟨g2, e2⟩ := List.getElem?_eq_some_iff.1 hp
            have := List.pairwise_iff_getElem.1 hnow.up (i - 1) i g1 g2 (by omega)
            rw [e1, e2] at this
            exact this
          rw [hlt2, Bool.not_true, cond_false]
          exact onward
      · rw [erd] at hr
        cases hr
    · rw [decide_eq_false (by omega), cond_false]
      have ei : i = now.length := by omega
      subst ei
      refine (F31_spec (H5.mv 1)).mono ?_
      rintro v h3 ⟨rfl, rfl⟩
      rw [DI_int, used_one, List.take_length]
      rw [show (((((now.map fun p => (files.getD p.2 default).b.length).sum : Nat) : Int)) == (((now.map fun p => (files.getD p.2 default).b.length).sum : Nat) : Int)) = true from beq_self_eq_true _]
      exact good_of (H5.ord [4])
  · rw [eli] at hl
    cases hl

end Go.Proofs.Yticjjdhaikbdaaa

namespace Go.Proofs.Yticjjdhaikbdaaa
open Go Go.RowKit
set_option linter.unusedVariables false
set_option linter.unusedSimpArgs false

theorem FsPlain_law {a : Option Addr} {l c : Nat} {acts : List ActV} (h : Heap) (HA : ActsIn h a acts) (hl : acts.length = l) (hm : l ≤ maxLen) : CallsH Try.prog 4 [.slice a l c] h (Good h) := by
  apply F4_ok
  unfold F4
  refine (F14_spec (sat_old h)).mono ?_
  rintro v h0 ⟨rfl, H0⟩
  rw [DB_bool, Bool.not_true, cond_false]
  refine (F26_spec (HA.old H0) hl hm).mono ?_
  rintro v h1 ⟨rfl, z, rfl, hz⟩
  rw [DB_bool]
  cases z with
  | true => exact good_of H0
  | false =>
  rw [cond_false]
  obtain ⟨hl2, hlight⟩ := hz rfl
  refine (F15_spec (room := 268435456) H0 (by omega)).mono ?_
  rintro v h2 ⟨b, rfl, H1⟩
  refine ⟨some ⟨b, 0, none⟩, 0, rfl, ?_⟩
  refine (c16 (A' := AF.One 268435456 1 [] [] [] []) (e := 0) rfl (new_wf (by omega)) (by decide) (by decide) H1).mono ?_
  rintro v h3 ⟨rfl, W1, H3⟩
  rw [DI_int, show (((0 : Nat) : Int) != 0) = false from rfl, cond_false]
  refine Al_sat H3 fun b0 h4 H4 => Al_sat H4 fun b1 h5 H5 => ?_
  have K1 : sat [listS b0 [], pt b1 (.cells #[.slice none 0 0] 41 (0, 0)), fsP b (AF.One 268435456 1 [] [] [] []), old h] h5 := listS_shut ((ownS_nil 9 1 (H5.mv 1)).mv 1)
  have K2 : sat [listS b1 [], listS b0 [], fsP b (AF.One 268435456 1 [] [] [] []), old h] h5 := listS_shut ((ownS_nil 9 1 (K1.mv 1)).mv 1)
  refine ⟨PInv h b b0 b1 l, fun st _ => ((l : Int) - st).toNat, ⟨0, 1, [], [], [], [], [], rfl, Nat.zero_le _, Nat.zero_le _, Nat.le_refl _, ⟨W1, .refl _⟩, K2.ordT 3 [2, 1, 0]⟩, ?_⟩
  rintro st h6 ⟨i, steps, files, now, base, pend, T, rfl, hi, hi2, hst, R, H6⟩
  have W := R.wf
  have hTf : T.length ≤ 4096 := by rw [R.length]; exact R.ok.few
  have hT1 : (T.map (·.1)).length < 1000000 := by rw [List.length_map]; omega
  have hT2 : (T.map (·.2)).length < 1000000 := by rw [List.length_map]; omega
  by_cases hlt : i < l
  · rw [decide_eq_true (show ((i : Int) < (l : Int)) by omega), cond_true]
    by_cases h100 : i < 100
    · rw [decide_eq_true (show ((i : Int) < 100) by omega), cond_true]
      have next : ∀ (hx : Heap) (steps' : Nat) (files' : List AF.File) (now' base' : AF.Names) (pend' : List AF.Op) (T' : AF.Tab), steps' ≤ steps + 1 → AF.Rel 268435456 steps' files' now' base' pend' T' →
          sat [fsP b (AF.One 268435456 steps' files' now' base' pend'), listS b0 (T'.map (·.1)), listS b1 (T'.map (·.2)), old h] hx →
          PInv h b b0 b1 l (IntKind.wrap .i64 ((i : Int) + 1)) hx ∧ ((l : Int) - IntKind.wrap .i64 ((i : Int) + 1)).toNat < ((l : Int) - (i : Int)).toNat := by
        intro hx steps' files' now' base' pend' T' hst' R' H'
        rw [wrap64_succ (by omega)]
        exact ⟨⟨i + 1, steps', files', now', base', pend', T', rfl, by omega, by omega, by omega, R', H'⟩, by omega⟩
      obtain ⟨x, hx⟩ : ∃ x, acts[i]? = some x := ⟨_, List.getElem?_eq_getElem (by omega)⟩
      have hL := hlight x (List.mem_of_getElem? hx)
      refine (HA.old (H6.mv 3)).at hl hx fun ba hba hc => ⟨_, hc 0 _ rfl, _, hc 1 _ rfl, _, hc 2 _ rfl, _, hc 3 _ rfl, _, hc 4 _ rfl, _, hc 5 _ rfl, _, hc 6 _ rfl, ?_⟩
      refine ⟨x.k, x.dir, x.name, x.b, x.n, x.turn, x.pa, x.pl, x.pc, rfl, ?_⟩
      refine Al_sat H6 fun b2 h7 H2 => ?_
      refine StCC (b := b2) (i := 0) (c' := #[.int .i64 x.k, .string .empty, .string .empty, .string .empty, .int .i64 0, .int .u8 0, .slice none 0 0]) H2 (by show 0 < 7; decide) rfl fun g1 S1 => ?_
      refine StCC (b := b2) (i := 1) (c' := #[.int .i64 x.k, .string x.dir, .string .empty, .string .empty, .int .i64 0, .int .u8 0, .slice none 0 0]) S1 (by show 1 < 7; decide) rfl fun g2 S2 => ?_
      refine StCC (b := b2) (i := 2) (c' := #[.int .i64 x.k, .string x.dir, .string x.name, .string .empty, .int .i64 0, .int .u8 0, .slice none 0 0]) S2 (by show 2 < 7; decide) rfl fun g3 S3 => ?_
      refine StCC (b := b2) (i := 3) (c' := #[.int .i64 x.k, .string x.dir, .string x.name, .string x.b, .int .i64 0, .int .u8 0, .slice none 0 0]) S3 (by show 3 < 7; decide) rfl fun g4 S4 => ?_
      refine StCC (b := b2) (i := 4) (c' := #[.int .i64 x.k, .string x.dir, .string x.name, .string x.b, .int .i64 x.n, .int .u8 0, .slice none 0 0]) S4 (by show 4 < 7; decide) rfl fun g5 S5 => ?_
      refine StCC (b := b2) (i := 5) (c' := #[.int .i64 x.k, .string x.dir, .string x.name, .string x.b, .int .i64 x.n, .int .u8 x.turn, .slice none 0 0]) S5 (by show 5 < 7; decide) rfl fun g6 S6 => ?_
      refine StCC (b := b2) (i := 6) (c' := #[.int .i64 x.k, .string x.dir, .string x.name, .string x.b, .int .i64 x.n, .int .u8 x.turn, .slice x.pa x.pl x.pc]) S6 (by show 6 < 7; decide) rfl fun g7 S7 => ?_
      have hact : sat (pt b2 (.cells #[.int .i64 x.k, .string x.dir, .string x.name, .string x.b, .int .i64 x.n, .int .u8 x.turn, .slice x.pa x.pl x.pc] 45 (0, 0)) :: [fsP b (AF.One 268435456 steps files now base pend), listS b0 (T.map (·.1)), listS b1 (T.map (·.2)), old h]) g7 := S7
      refine LdC (b := b2) (i := 2) (v := .string x.name) hact rfl ?_
      rw [DS_string]
      refine (F27_spec (by omega) (hact.mv 2)).mono ?_
      rintro v h8 ⟨rfl, rfl⟩
      rw [DI_int]
      refine LdC (b := b2) (i := 0) (v := .int .i64 x.k) hact rfl ?_
      rw [DI_int]
      have Hf : sat (fsP b (AF.One 268435456 steps files now base pend) :: [pt b2 (.cells #[.int .i64 x.k, .string x.dir, .string x.name, .string x.b, .int .i64 x.n, .int .u8 x.turn, .slice x.pa x.pl x.pc] 45 (0, 0)), listS b0 (T.map (·.1)), listS b1 (T.map (·.2)), old h]) h8 := hact.mv 1
      have hsteps : (AF.One 268435456 steps files now base pend).steps < 1099511627776 := by show steps < _; omega
      have hnz : x.name.size < 4611686018427387904 := by have := hL.name; omega
      have hbz : x.b.size < 4611686018427387904 := by have := hL.b; omega
      have hbm : x.b.size ≤ maxLen := Nat.le_trans hL.b (by decide)
      by_cases k1 : x.k = 1
      · rw [k1, show ((1 : Int) == 1) = true from rfl, cond_true]
        refine LdC (b := b2) (i := 2) (v := .string x.name) hact rfl ?_
        rw [DS_string]
        refine (F17_spec W hsteps (dir := dN) (name := x.name) (by decide) hnz Hf).mono ?_
        rintro v h9 ⟨rfl, H9⟩
        rw [DI_int]
        rcases AF.create_out R x.name with ⟨e, he, hr⟩ | ⟨f', n', bs', p', hr, hno, R'⟩
        · rw [hr] at H9 ⊢
          rw [err_beq he, cond_false]
          exact next h9 steps files now base pend T (by omega) R (H9.ordT 5 [0, 2, 3, 4])
        · rw [hr] at H9 ⊢
          rw [show (((0 : Nat) : Int) == 0) = true from rfl, cond_true, AF.key_none hno]
          show bif decide ((-1 : Int) ≥ 0) then _ else _
          rw [show decide ((-1 : Int) ≥ 0) = false from rfl, cond_false]
          obtain ⟨na, nl, nc, hnl, H10⟩ := listS_open (H9.mv 2)
          refine LdV (v := .slice na nl nc) H10.get rfl ?_
          rw [DSl_slice]
          refine LdC (b := b2) (i := 2) (v := .string x.name) (H10.mv 3) rfl ?_
          rw [DS_string]
          refine push_tail hT1 hnl H10 fun h10 H11 => ?_
          obtain ⟨da, dl, dc, hdl, H12⟩ := listS_open (H11.mv 3)
          refine LdV (v := .slice da dl dc) H12.get rfl ?_
          rw [DSl_slice]
          refine push_tail hT2 hdl H12 fun h11 H13 => ?_
          -- listS b1, listS b0, fsP, act, old
          refine next h11 _ f' n' bs' p' _ (Nat.le_refl _) R' ?_
          rw [List.map_append, List.map_append]
          exact H13.ordT 5 [2, 1, 0, 4]
      rw [show (x.k == 1) = false by rw [beq_eq_false_iff_ne]; exact k1, cond_false]
      by_cases k2 : x.k = 2
      · rw [k2, show ((2 : Int) == 2) = true from rfl, cond_true]
        refine LdC (b := b2) (i := 2) (v := .string x.name) hact rfl ?_
        rw [DS_string]
        refine LdC (b := b2) (i := 3) (v := .string x.b) hact rfl ?_
        rw [DS_string]
        refine cText Hf hbm fun ta tc h9 H9 => ?_
        rw [DSl_slice]
        refine (F18_spec W hsteps (dir := dN) (name := x.name) (bs := sb x.b) (by decide) hnz (fun h' hh => ownS_read hh) (sb_length _) hbz (H9.mv 1)).mono ?_
        rintro v h10 ⟨rfl, H10⟩
        rw [DI_int]
        -- fsP, ownS, act, listS, listS, old
        rcases AF.append_out R x.name x.b with ⟨e, he, hr⟩ | ⟨f', n', bs', p', hr, j, d, hj, hds, R'⟩
        · rw [hr] at H10 ⊢
          rw [err_beq he, cond_false]
          exact next h10 steps files now base pend T (by omega) R (H10.ordT 6 [0, 3, 4, 5])
        · rw [hr] at H10 ⊢
          rw [show (((0 : Nat) : Int) == 0) = true from rfl, cond_true, AF.key_some R.nodup hj]
          show bif decide (((j : Nat) : Int) < 0) then _ else _
          rw [decide_eq_false (by omega), cond_false]
          obtain ⟨da, dl, dc, hdl, H12⟩ := listS_open (H10.mv 4)
          refine LdV (v := .slice da dl dc) H12.get rfl ?_
          rw [DSl_slice]
          refine LdV (v := .slice da dl dc) H12.get rfl ?_
          rw [DSl_slice]
          have hjl := (List.getElem?_eq_some_iff.1 hj).1
          have hdj : ((T.map (·.2)).map Value.string)[j]? = some (.string d) := by rw [List.getElem?_map, List.getElem?_map, hj]; rfl
          refine IdxA_nat (i := j) (v := .string d) (ownS_read (H12.mv 1)) (by rw [List.length_map]; omega) hdj fun ba3 hba3 hc3 => ⟨_, hc3, ?_⟩
          show DS (.string d) _
          rw [DS_string]
          -- pt b1, ownS, fsP, ownS bytes, act, listS b0, old
          refine LdC (b := b2) (i := 3) (v := .string x.b) (H12.mv 4) rfl ?_
          rw [DS_string]
          refine ⟨by omega, ?_⟩
          refine IdxA_nat (i := j) (v := .string d) (ownS_read (H12.mv 1)) (by rw [List.length_map]; omega) hdj fun ba4 hba4 hc4 => ?_
          subst hba4
          rw [addr_add0]
          refine ownS_set (j := j) (v := .string (d ++ x.b)) (H12.mv 1) (by rw [List.length_map, List.length_map]; exact hjl) fun h11 H13 => ?_
          refine next h11 _ f' n' bs' p' _ (Nat.le_refl _) R' ?_
          have e1 : (T.set j (x.name, d ++ x.b)).map (·.1) = T.map (·.1) := by
            rw [List.map_set]
            exact set_self (by rw [List.getElem?_map, hj]; rfl)
          have e2 : ((T.map (·.2)).map Value.string).set j (.string (d ++ x.b)) = ((T.set j (x.name, d ++ x.b)).map (·.2)).map Value.string := by
            rw [List.map_set, List.map_set]
          rw [e1]
          rw [e2] at H13
          -- ownS, pt b1, fsP, ownS bytes, act, listS b0, old
          have H14 := listS_shut (H13.mv 1)
          exact H14.ordT 6 [1, 4, 0, 5]
      rw [show (x.k == 2) = false by rw [beq_eq_false_iff_ne]; exact k2, cond_false]
      by_cases k5 : x.k = 5
      · rw [k5, show ((5 : Int) == 5) = true from rfl, cond_true]
        refine LdC (b := b2) (i := 2) (v := .string x.name) hact rfl ?_
        rw [DS_string]
        refine LdC (b := b2) (i := 3) (v := .string x.b) hact rfl ?_
        rw [DS_string]
        refine (F22_spec W hsteps (dir := dN) (k := x.name) (k2 := x.b) (by decide) hnz hbz Hf).mono ?_
        rintro v h9 ⟨rfl, H9⟩
        rw [DI_int]
        rcases AF.rename_out R x.name x.b with ⟨e, he, hr⟩ | ⟨f', n', bs', p', hr, j, d, hj, hcase⟩
        · rw [hr] at H9 ⊢
          rw [err_beq he, cond_false]
          exact next h9 steps files now base pend T (by omega) R (H9.ordT 5 [0, 2, 3, 4])
        · rw [hr] at H9 ⊢
          rw [show (((0 : Nat) : Int) == 0) = true from rfl, cond_true, AF.key_some R.nodup hj]
          show bif decide (((j : Nat) : Int) < 0) then _ else _
          rw [decide_eq_false (by omega), cond_false]
          have hjl := (List.getElem?_eq_some_iff.1 hj).1
          -- fsP, act, listS b0, listS b1, old
          obtain ⟨da, dl, dc, hdl, H12⟩ := listS_open (H9.mv 3)
          refine LdV (v := .slice da dl dc) H12.get rfl ?_
          rw [DSl_slice]
          have hdj : ((T.map (·.2)).map Value.string)[j]? = some (.string d) := by rw [List.getElem?_map, List.getElem?_map, hj]; rfl
          refine IdxA_nat (i := j) (v := .string d) (ownS_read (H12.mv 1)) (by rw [List.length_map]; omega) hdj fun ba3 hba3 hc3 => ⟨_, hc3, ?_⟩
          show DS (.string d) _
          rw [DS_string]
          have H13 := H9.ordT 5 [2, 3, 0, 1, 4]
          refine (F28_spec (b1 := b0) (b2 := b1) (i := j) (by rw [List.length_map]; exact hjl) (by rw [List.length_map, List.length_map]) (by omega) H13).mono ?_
          rintro v h10 ⟨rfl, H14⟩
          refine ⟨rfl, ?_⟩
          rw [← map_erase, ← map_erase] at H14
          have hel : (T.eraseIdx j).length ≤ 4096 := Nat.le_trans (List.length_eraseIdx_le ..) hTf
          have hn2 : ((T.eraseIdx j).map (·.1)).Nodup := by rw [map_erase]; exact List.Pairwise.sublist (List.eraseIdx_sublist ..) R.nodup
          -- listS b0, listS b1, fsP, act, old
          refine LdC (b := b2) (i := 3) (v := .string x.b) (H14.mv 3) rfl ?_
          rw [DS_string]
          refine (F27_spec (by rw [List.length_map]; omega) H14).mono ?_
          rintro v h11 ⟨rfl, rfl⟩
          rw [DI_int]
          rcases hcase with ⟨hno, R'⟩ | ⟨j2, d2, hj2, R'⟩
          · rw [AF.key_none hno]
            show bif decide ((-1 : Int) ≥ 0) then _ else _
            rw [show decide ((-1 : Int) ≥ 0) = false from rfl, cond_false]
            obtain ⟨na, nl, nc, hnl, H15⟩ := listS_open H14
            refine LdV (v := .slice na nl nc) H15.get rfl ?_
            rw [DSl_slice]
            refine LdC (b := b2) (i := 3) (v := .string x.b) (H15.mv 4) rfl ?_
            rw [DS_string]
            refine push_tail (by rw [List.length_map]; omega) hnl H15 fun h12 H16 => ?_
            obtain ⟨ea, el, ec, hel2, H17⟩ := listS_open (H16.mv 1)
            refine LdV (v := .slice ea el ec) H17.get rfl ?_
            rw [DSl_slice]
            refine push_tail (by rw [List.length_map]; omega) hel2 H17 fun h13 H18 => ?_
            refine next h13 _ f' n' bs' p' _ (Nat.le_refl _) R' ?_
            rw [List.map_append, List.map_append]
            exact H18.ordT 5 [2, 1, 0, 4]
          · rw [AF.key_some hn2 hj2]
            show bif decide (((j2 : Nat) : Int) ≥ 0) then _ else _
            rw [decide_eq_true (by omega), cond_true]
            have hjl2 := (List.getElem?_eq_some_iff.1 hj2).1
            refine (F28_spec (b1 := b0) (b2 := b1) (i := j2) (by rw [List.length_map]; exact hjl2) (by rw [List.length_map, List.length_map]) (by rw [List.length_map]; omega) H14).mono ?_
            rintro v h12 ⟨rfl, H15⟩
            refine ⟨rfl, ?_⟩
            rw [← map_erase, ← map_erase] at H15
            have hel3 : ((T.eraseIdx j).eraseIdx j2).length ≤ 4096 := Nat.le_trans (List.length_eraseIdx_le ..) hel
            obtain ⟨na, nl, nc, hnl, H16⟩ := listS_open H15
            refine LdV (v := .slice na nl nc) H16.get rfl ?_
            rw [DSl_slice]
            refine LdC (b := b2) (i := 3) (v := .string x.b) (H16.mv 4) rfl ?_
            rw [DS_string]
            refine push_tail (by rw [List.length_map]; omega) hnl H16 fun h13 H17 => ?_
            obtain ⟨ea, el, ec, hel2, H18⟩ := listS_open (H17.mv 1)
            refine LdV (v := .slice ea el ec) H18.get rfl ?_
            rw [DSl_slice]
            refine push_tail (by rw [List.length_map]; omega) hel2 H18 fun h14 H19 => ?_
            refine next h14 _ f' n' bs' p' _ (Nat.le_refl _) R' ?_
            rw [List.map_append, List.map_append]
            exact H19.ordT 5 [2, 1, 0, 4]
      rw [show (x.k == 5) = false by rw [beq_eq_false_iff_ne]; exact k5, cond_false]
      by_cases k6 : x.k = 6
      · rw [k6, show ((6 : Int) == 6) = true from rfl, cond_true]
        refine LdC (b := b2) (i := 2) (v := .string x.name) hact rfl ?_
        rw [DS_string]
        refine (F29_spec W hsteps (dir := dN) (k := x.name) (by decide) hnz Hf).mono ?_
        rintro v h9 ⟨rfl, H9⟩
        rw [DI_int]
        rcases AF.remove_out R x.name with ⟨e, he, hr⟩ | ⟨f', n', bs', p', hr, j, d, hj, R'⟩
        · rw [hr] at H9 ⊢
          rw [err_beq he, cond_false]
          exact next h9 steps files now base pend T (by omega) R (H9.ordT 5 [0, 2, 3, 4])
        · rw [hr] at H9 ⊢
          rw [show (((0 : Nat) : Int) == 0) = true from rfl, cond_true, AF.key_some R.nodup hj]
          show bif decide (((j : Nat) : Int) < 0) then _ else _
          rw [decide_eq_false (by omega), cond_false]
          have hjl := (List.getElem?_eq_some_iff.1 hj).1
          have H13 := H9.ordT 5 [2, 3, 0, 1, 4]
          refine (F28_spec (b1 := b0) (b2 := b1) (i := j) (by rw [List.length_map]; exact hjl) (by rw [List.length_map, List.length_map]) (by omega) H13).mono ?_
          rintro v h10 ⟨rfl, H14⟩
          refine ⟨rfl, ?_⟩
          rw [← map_erase, ← map_erase] at H14
          exact next h10 _ f' n' bs' p' _ (Nat.le_refl _) R' (H14.ordT 5 [2, 0, 1, 4])
      rw [show (x.k == 6) = false by rw [beq_eq_false_iff_ne]; exact k6, cond_false]
      exact next h8 steps files now base pend T (by omega) R hact.drop
    · rw [decide_eq_false (show ¬ ((i : Int) < 100) by omega), cond_false]
      exact FsPlain_tail R H6
  · rw [decide_eq_false (show ¬ ((i : Int) < (l : Int)) by omega), cond_false]
    exact FsPlain_tail R H6

end Go.Proofs.Yticjjdhaikbdaaa
