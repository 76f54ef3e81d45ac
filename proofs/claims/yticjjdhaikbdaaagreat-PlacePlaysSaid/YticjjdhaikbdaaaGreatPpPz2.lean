/- The document's place: the walks (seat Z). -/
import Derived.Test.YticjjdhaikbdaaaGreatPpPz1
namespace Go.Proofs.YticjjdhaikbdaaaGreat
open Go Go.RowKit
set_option linter.unusedVariables false
set_option linter.unusedSimpArgs false

namespace AF
/-- Steps and files grow by so many at most. -/
def Gr (n : Nat) (A B : FS) : Prop := B.steps ≤ A.steps + n ∧ B.files.length ≤ A.files.length + n
theorem Gr.same (n : Nat) (A : FS) : Gr n A A := ⟨Nat.le_add_right _ _, Nat.le_add_right _ _⟩
theorem Gr.trans {m n : Nat} {A B C : FS} (h1 : Gr m A B) (h2 : Gr n B C) : Gr (m + n) A C := ⟨by have := h1.1; have := h2.1; omega, by have := h1.2; have := h2.2; omega⟩
theorem Gr.le {m n : Nat} {A B : FS} (h : Gr m A B) (hl : m ≤ n) : Gr n A B := ⟨by have := h.1; omega, by have := h.2; omega⟩
theorem gr_mkdir (A : FS) (dir : ByteArray) : Gr 1 A (A.mkdir dir).1 := by
  have := Grown1.act (A := A) (k := 0) (dir := dir) (name := .empty) (b := .empty) (n := 0) (turn := 0) (ps := [])
  show Grown1 A _
  simpa [FS.act] using this
theorem gr_create (A : FS) (dir name : ByteArray) : Gr 1 A (A.create dir name).1 := by
  have := Grown1.act (A := A) (k := 1) (dir := dir) (name := name) (b := .empty) (n := 0) (turn := 0) (ps := [])
  show Grown1 A _
  simpa [FS.act] using this
theorem gr_append (A : FS) (dir name b : ByteArray) : Gr 1 A (A.append dir name (sb b)).1 := by
  have := Grown1.act (A := A) (k := 2) (dir := dir) (name := name) (b := b) (n := 0) (turn := 0) (ps := [])
  show Grown1 A _
  simpa [FS.act] using this
theorem gr_sync (A : FS) (dir name : ByteArray) : Gr 1 A (A.sync dir name).1 := by
  have := Grown1.act (A := A) (k := 3) (dir := dir) (name := name) (b := .empty) (n := 0) (turn := 0) (ps := [])
  show Grown1 A _
  simpa [FS.act] using this
theorem gr_syncDir (A : FS) (dir : ByteArray) : Gr 1 A (A.syncDir dir).1 := by
  have := Grown1.act (A := A) (k := 4) (dir := dir) (name := .empty) (b := .empty) (n := 0) (turn := 0) (ps := [])
  show Grown1 A _
  simpa [FS.act] using this
theorem gr_rename (A : FS) (dir a b : ByteArray) : Gr 1 A (A.rename dir a b).1 := by
  have := Grown1.act (A := A) (k := 5) (dir := dir) (name := a) (b := b) (n := 0) (turn := 0) (ps := [])
  show Grown1 A _
  simpa [FS.act] using this
theorem gr_remove (A : FS) (dir a : ByteArray) : Gr 1 A (A.remove dir a).1 := by
  have := Grown1.act (A := A) (k := 6) (dir := dir) (name := a) (b := .empty) (n := 0) (turn := 0) (ps := [])
  show Grown1 A _
  simpa [FS.act] using this
/-- What any step keeps. -/
abbrev Tame (g : FS → FS × Nat) : Prop := ∀ A : FS, A.WF → (g A).1.WF ∧ Gr 1 A (g A).1
theorem seqF_tame : ∀ (gs : List (FS → FS × Nat)), (∀ g ∈ gs, Tame g) → ∀ A : FS, A.WF → (seqF gs A).1.WF ∧ Gr gs.length A (seqF gs A).1
  | [], _, A, W => ⟨W, Gr.same 0 A⟩
  | g :: gs, h, A, W => by
    obtain ⟨W1, G1⟩ := h g (List.mem_cons_self ..) A W
    unfold seqF
    split
    · obtain ⟨W2, G2⟩ := seqF_tame gs (fun g hg => h g (List.mem_cons_of_mem _ hg)) (g A).1 W1
      exact ⟨W2, (G1.trans G2).le (by rw [List.length_cons]; omega)⟩
    · exact ⟨W1, G1.le (by rw [List.length_cons]; omega)⟩
theorem rawSteps_tame (dir name b : ByteArray) : ∀ g ∈ rawSteps dir name (sb b), Tame g := by
  intro g hg
  simp only [rawSteps, List.mem_cons, List.not_mem_nil, or_false] at hg
  rcases hg with rfl | rfl | rfl | rfl | rfl
  · exact fun A W => ⟨W.create _ _, gr_create A _ _⟩
  · exact fun A W => ⟨W.append _ _ (sb_B8 b), gr_append A _ _ _⟩
  · exact fun A W => ⟨W.sync _ _, gr_sync A _ _⟩
  · exact fun A W => ⟨W.rename _ _ _, gr_rename A _ _ _⟩
  · exact fun A W => ⟨W.syncDir _, gr_syncDir A _⟩
theorem raw_tame (dir name b : ByteArray) {A : FS} (W : A.WF) : (A.raw dir name (sb b)).1.WF ∧ Gr 6 A (A.raw dir name (sb b)).1 := by
  unfold FS.raw
  split
  · exact ⟨W, Gr.same 6 A⟩
  · cases A.list dir with
    | error e => exact ⟨W, Gr.same 6 A⟩
    | ok l =>
      show (seqF (rawAll dir name (sb b) l) A).1.WF ∧ Gr 6 A (seqF (rawAll dir name (sb b) l) A).1
      unfold rawAll
      split
      · exact seqF_tame _ (fun g hg => by
          rcases List.mem_cons.1 hg with rfl | hg
          · exact fun A W => ⟨W.remove _ _, gr_remove A _ _⟩
          · exact rawSteps_tame dir name b g hg) A W
      · obtain ⟨h1, h2⟩ := seqF_tame _ (rawSteps_tame dir name b) A W
        exact ⟨h1, h2.le (by show (5 : Nat) ≤ 6; decide)⟩
theorem put_tame (dir name b : ByteArray) {A : FS} (W : A.WF) : (A.put dir name (sb b)).1.WF ∧ Gr 6 A (A.put dir name (sb b)).1 := by
  unfold FS.put
  split
  · exact ⟨W, Gr.same 6 A⟩
  · have := raw_tame dir name (ofN (Frame.packN (sb b))) W
    rwa [sb_ofN (Frame.packN_B8 (sb_B8 b))] at this
theorem cleanGo_tame (dir : ByteArray) : ∀ (l : List ByteArray) (A : FS) (n : Nat), A.WF → (cleanGo dir l A n).1.WF ∧ Gr l.length A (cleanGo dir l A n).1
  | [], A, n, W => ⟨W, Gr.same 0 A⟩
  | s :: l, A, n, W => by
    unfold cleanGo
    split
    · split
      · obtain ⟨W2, G2⟩ := cleanGo_tame dir l (A.remove dir s).1 (n + 1) (W.remove _ _)
        exact ⟨W2, ((gr_remove A dir s).trans G2).le (by rw [List.length_cons]; omega)⟩
      · exact ⟨W.remove _ _, (gr_remove A dir s).le (by rw [List.length_cons]; omega)⟩
    · obtain ⟨W2, G2⟩ := cleanGo_tame dir l A n W
      exact ⟨W2, G2.le (by rw [List.length_cons]; omega)⟩
theorem list_few {dir : ByteArray} {A : FS} (W : A.WF) {ks : List ByteArray} (h : A.list dir = .ok ks) : ks.length ≤ 4096 := by
  unfold FS.list at h
  cases hr : A.ready dir [] with
  | error e => rw [hr] at h; cases h
  | ok i =>
    rw [hr] at h
    obtain ⟨_, _, _, _, d, hd, _⟩ := ready_ok hr
    simp only [Except.ok.injEq] at h
    rw [← h, D_of hd, List.length_map]
    exact (W.each d (List.mem_of_getElem? hd)).ok.few
theorem clean_tame (dir : ByteArray) {A : FS} (W : A.WF) : (A.clean dir).1.WF ∧ Gr 4097 A (A.clean dir).1 := by
  unfold FS.clean
  cases hl : A.list dir with
  | error e => exact ⟨W, Gr.same _ A⟩
  | ok l =>
    have hf := list_few W hl
    obtain ⟨W2, G2⟩ := cleanGo_tame dir l A 0 W
    simp only []
    cases hc : cleanGo dir l A 0 with
    | mk B r =>
      rw [hc] at W2 G2
      cases r with
      | error e => exact ⟨W2, G2.le (by omega)⟩
      | ok n =>
        simp only []
        split
        · split
          · exact ⟨W2.syncDir _, (G2.trans (gr_syncDir B dir)).le (by omega)⟩
          · exact ⟨W2.syncDir _, (G2.trans (gr_syncDir B dir)).le (by omega)⟩
        · exact ⟨W2, G2.le (by omega)⟩
theorem tidy_fst (A : FS) (dir : ByteArray) : (A.tidy dir).1 = (A.clean dir).1 := by
  unfold FS.tidy
  cases hc : A.clean dir with
  | mk B r => cases r <;> rfl
theorem tidy_tame (dir : ByteArray) {A : FS} (W : A.WF) : (A.tidy dir).1.WF ∧ Gr 4097 A (A.tidy dir).1 := by
  rw [tidy_fst]
  exact clean_tame dir W
theorem prep_tame (dir : ByteArray) {A : FS} (W : A.WF) : (A.prep dir).1.WF ∧ Gr 4098 A (A.prep dir).1 := by
  unfold FS.prep
  split
  · split
    · obtain ⟨W2, G2⟩ := tidy_tame dir (W.mkdir dir)
      exact ⟨W2, ((gr_mkdir A dir).trans G2).le (by omega)⟩
    · exact ⟨W.mkdir dir, (gr_mkdir A dir).le (by omega)⟩
  · obtain ⟨W2, G2⟩ := tidy_tame dir W
    exact ⟨W2, G2.le (by omega)⟩
end AF
theorem zero_bne {e : Nat} (h : e = 0) : ((e : Int) != 0) = false := by rw [h]; rfl
section
variable {m : Nat} {A : AF.FS} {F : List HProp} {h : Heap} {dir name b : ByteArray}
theorem F62_spec {s : ByteArray} {ss : List ByteArray} {a : Option Addr} {l c : Nat} (hr : RdC h a (ss.map Value.string)) (hl : ss.length = l) (hm : l < 4611686018427387904) :
    CallsH Tryz.prog 62 [.slice a l c, .string s] h fun v h' => h' = h ∧ v = .bool (ss.any fun k => decide (k = s)) := by
  apply F62_ok
  unfold F62
  refine ⟨fun st hh => hh = h ∧ ∃ i : Nat, st = (i : Int) ∧ i ≤ l ∧ ∀ (j : Nat) (k : ByteArray), j < i → ss[j]? = some k → k ≠ s, fun st _ => ((l : Int) - st).toNat, ⟨rfl, 0, rfl, Nat.zero_le _, fun j k hj => by omega⟩, ?_⟩
  rintro st h1 ⟨rfl, i, rfl, hi, hno⟩
  by_cases hlt : i < l
  · rw [decide_eq_true (show ((i : Int) < (l : Int)) by omega), cond_true]
    obtain ⟨k, hk⟩ : ∃ k, ss[i]? = some k := ⟨_, List.getElem?_eq_getElem (by omega)⟩
    refine strRead hr hl hk fun b2 hc => CStr hc ?_
    rw [strEq_dec]
    by_cases hks : k = s
    · rw [decide_eq_true hks, cond_true]
      refine ⟨by trivial, congrArg Value.bool ?_⟩
      symm
      exact List.any_eq_true.2 ⟨k, List.mem_of_getElem? hk, decide_eq_true hks⟩
    · rw [decide_eq_false hks, cond_false, wrap64_succ (by omega)]
      refine ⟨⟨by trivial, i + 1, rfl, by omega, fun j k' hj hk' => ?_⟩, by show ((l : Int) - ((i + 1 : Nat) : Int)).toNat < ((l : Int) - (i : Int)).toNat; omega⟩
      by_cases hji : j = i
      · subst hji
        rw [hk] at hk'
        cases hk'
        exact hks
      · exact hno j k' (by omega) hk'
  · rw [decide_eq_false (by omega), cond_false]
    refine ⟨by trivial, congrArg Value.bool ?_⟩
    symm
    rw [List.any_eq_false]
    intro k hk
    obtain ⟨j, hj⟩ := List.getElem?_of_mem hk
    have := hno j k (by have := (List.getElem?_eq_some_iff.1 hj).1; omega) hj
    simpa using this
/-- The five steps of a file that is placed. -/
theorem raw5 {Q : Value → Heap → Prop} (W : A.WF) (hs : A.steps + 10 < 1099511627776) (hm : A.files.length < 1099511627776) (hb : b.size < 4611686018427387904) (H : sat (refP m A :: F) h)
    (hQ : ∀ v h', v = .int .i64 ((AF.seqF (AF.rawSteps dir name (sb b)) A).2 : Int) → sat (refP m (AF.seqF (AF.rawSteps dir name (sb b)) A).1 :: F) h' → Q v h') :
    CallsH Tryz.prog 64 [ptrV m, .string dir, .string (AF.tmpN ++ name)] h fun r3 h_3 =>
      DI .i64 r3 fun e1 =>
      (bif (e1 : Int) != 0 then
        Q (.int .i64 e1) h_3
      else
        CallsH Tryz.prog 65 [ptrV m, .string dir, .string (AF.tmpN ++ name), .string b] h_3 fun r4 h_4 =>
        DI .i64 r4 fun e2 =>
        (bif (e2 : Int) != 0 then
          Q (.int .i64 e2) h_4
        else
          CallsH Tryz.prog 66 [ptrV m, .string dir, .string (AF.tmpN ++ name)] h_4 fun r5 h_5 =>
          DI .i64 r5 fun e3 =>
          (bif (e3 : Int) != 0 then
            Q (.int .i64 e3) h_5
          else
            CallsH Tryz.prog 67 [ptrV m, .string dir, .string (AF.tmpN ++ name), .string name] h_5 fun r6 h_6 =>
            DI .i64 r6 fun e4 =>
            (bif (e4 : Int) != 0 then
              Q (.int .i64 e4) h_6
            else
              CallsH Tryz.prog 68 [ptrV m, .string dir] h_6 fun r7 h_7 =>
              DI .i64 r7 fun x3 =>
              Q (.int .i64 x3) h_7)))) := by
  have W1 := W.create dir (AF.tmpN ++ name)
  have G1 := (AF.gr_create A dir (AF.tmpN ++ name)).1
  refine (F64_spec W (by omega) hm H).mono ?_
  rintro v h1 ⟨rfl, H1⟩
  rw [DI_int]
  unfold AF.rawSteps AF.seqF at hQ
  simp only [] at hQ
  generalize A.create dir (AF.tmpN ++ name) = r1 at *
  by_cases e1 : r1.2 = 0
  · rw [zero_bne e1, cond_false]
    rw [if_pos e1] at hQ
    have W2 := W1.append dir (AF.tmpN ++ name) (sb_B8 b)
    have G2 := (AF.gr_append r1.1 dir (AF.tmpN ++ name) b).1
    refine (F65_spec W1 (by omega) hb H1).mono ?_
    rintro v h2 ⟨rfl, H2⟩
    rw [DI_int]
    unfold AF.seqF at hQ
    simp only [] at hQ
    generalize r1.1.append dir (AF.tmpN ++ name) (sb b) = r2 at *
    by_cases e2 : r2.2 = 0
    · rw [zero_bne e2, cond_false]
      rw [if_pos e2] at hQ
      have W3 := W2.sync dir (AF.tmpN ++ name)
      have G3 := (AF.gr_sync r2.1 dir (AF.tmpN ++ name)).1
      refine (F66_spec W2 (by omega) H2).mono ?_
      rintro v h3 ⟨rfl, H3⟩
      rw [DI_int]
      unfold AF.seqF at hQ
      simp only [] at hQ
      generalize r2.1.sync dir (AF.tmpN ++ name) = r3 at *
      by_cases e3 : r3.2 = 0
      · rw [zero_bne e3, cond_false]
        rw [if_pos e3] at hQ
        have W4 := W3.rename dir (AF.tmpN ++ name) name
        have G4 := (AF.gr_rename r3.1 dir (AF.tmpN ++ name) name).1
        refine (F67_spec W3 (by omega) H3).mono ?_
        rintro v h4 ⟨rfl, H4⟩
        rw [DI_int]
        unfold AF.seqF at hQ
        simp only [] at hQ
        generalize r3.1.rename dir (AF.tmpN ++ name) name = r4 at *
        by_cases e4 : r4.2 = 0
        · rw [zero_bne e4, cond_false]
          rw [if_pos e4] at hQ
          refine (F68_spec W4 (by omega) H4).mono ?_
          rintro v h5 ⟨rfl, H5⟩
          rw [DI_int]
          unfold AF.seqF AF.seqF at hQ
          simp only [] at hQ
          generalize r4.1.syncDir dir = r5 at *
          by_cases e5 : r5.2 = 0
          · rw [if_pos e5] at hQ
            rw [e5]
            exact hQ _ _ rfl H5
          · rw [if_neg e5] at hQ
            exact hQ _ _ rfl H5
        · rw [err_bne e4, cond_true]
          rw [if_neg e4] at hQ
          exact hQ _ _ rfl H4
      · rw [err_bne e3, cond_true]
        rw [if_neg e3] at hQ
        exact hQ _ _ rfl H3
    · rw [err_bne e2, cond_true]
      rw [if_neg e2] at hQ
      exact hQ _ _ rfl H2
  · rw [err_bne e1, cond_true]
    rw [if_neg e1] at hQ
    exact hQ _ _ rfl H1
abbrev Did (m : Nat) (r : AF.FS × Nat) (F : List HProp) : Value → Heap → Prop := fun v h' => v = .int .i64 (r.2 : Int) ∧ sat (refP m r.1 :: F) h'
theorem F16_spec (W : A.WF) (hs : A.steps + 20 < 1099511627776) (hm : A.files.length + 20 < 1099511627776) (hb : b.size < 4611686018427387904) (H : sat (refP m A :: F) h) :
    CallsH Tryz.prog 16 [ptrV m, .string dir, .string name, .string b] h (Did m (A.raw dir name (sb b)) F) := by
  apply F16_ok
  unfold F16
  by_cases hbig : 28 < name.size
  · rw [decide_eq_true (show ((name.size : Int) > 28) by omega), cond_true]
    have e : A.raw dir name (sb b) = (A, 65) := by unfold AF.FS.raw; rw [if_pos hbig]
    rw [e]
    exact ⟨rfl, H⟩
  rw [decide_eq_false (show ¬ ((name.size : Int) > 28) by omega), cond_false]
  refine ⟨by show 4 + name.size ≤ _; omega, ?_⟩
  refine (F61_spec W H).mono ?_
  rintro v h1 (⟨ks, a, c, hli, rfl, H1⟩ | ⟨e, hli, e0, rfl, H1⟩)
  · refine ⟨a, ks.length, c, 0, rfl, ?_⟩
    rw [show ((0 : Int) != 0) = false from rfl, cond_false]
    have hf := AF.list_few W hli
    refine (F62_spec (ownS_read H1) rfl (by omega)).mono ?_
    rintro v h2 ⟨rfl, rfl⟩
    rw [DB_bool]
    have eraw : A.raw dir name (sb b) = AF.seqF (AF.rawAll dir name (sb b) ks) A := by unfold AF.FS.raw; rw [if_neg hbig, hli]
    rw [eraw]
    have H2 := H1.drop
    cases hc : ks.any fun k => decide (k = AF.tmpN ++ name) with
    | false =>
      have eall : AF.rawAll dir name (sb b) ks = AF.rawSteps dir name (sb b) := by unfold AF.rawAll; rw [hc, if_neg (by decide)]
      rw [eall]
      have hc2 : (ks.any fun k => decide (k = ⟨#[116, 109, 112, 46]⟩ ++ name)) = false := hc
      rw [hc2, cond_false]
      exact raw5 W (by omega) (by omega) hb H2 fun v h' hv hh => ⟨hv, hh⟩
    | true =>
      have eall : AF.rawAll dir name (sb b) ks = (fun A : AF.FS => A.remove dir (AF.tmpN ++ name)) :: AF.rawSteps dir name (sb b) := by unfold AF.rawAll; rw [hc, if_pos rfl]
      rw [eall]
      have hc2 : (ks.any fun k => decide (k = ⟨#[116, 109, 112, 46]⟩ ++ name)) = true := hc
      rw [hc2, cond_true]
      have W1 := W.remove dir (AF.tmpN ++ name)
      have G1 := AF.gr_remove A dir (AF.tmpN ++ name)
      have g1 := G1.1
      have g2 := G1.2
      refine (F63_spec W (by omega) H2).mono ?_
      rintro v h3 ⟨rfl, H3⟩
      rw [DI_int]
      unfold AF.seqF
      simp only []
      have et : (⟨#[116, 109, 112, 46]⟩ ++ name : ByteArray) = AF.tmpN ++ name := rfl
      rw [et] at H3 ⊢
      generalize A.remove dir (AF.tmpN ++ name) = r1 at *
      by_cases e1 : r1.2 = 0
      · rw [zero_bne e1, cond_false, if_pos e1]
        exact raw5 W1 (by omega) (by omega) hb H3 fun v h' hv hh => ⟨hv, hh⟩
      · rw [err_bne e1, cond_true, if_neg e1]
        exact ⟨rfl, H3⟩
  · refine ⟨none, 0, 0, (e : Int), rfl, ?_⟩
    rw [err_bne e0, cond_true]
    have er : A.raw dir name (sb b) = (A, e) := by unfold AF.FS.raw; rw [if_neg hbig, hli]
    rw [er]
    exact ⟨rfl, H1⟩
theorem F14_spec (W : A.WF) (hs : A.steps + 20 < 1099511627776) (hm : A.files.length + 20 < 1099511627776) (hb : b.size < 4611686018427387904) (H : sat (refP m A :: F) h) :
    CallsH Tryz.prog 14 [ptrV m, .string dir, .string name, .string b] h (Did m (A.put dir name (sb b)) F) := by
  apply F14_ok
  unfold F14
  have hbl := sb_length b
  by_cases hbig : 16777208 < b.size
  · have : CallsH Tryz.prog 46 [.string b] h fun v h' => v = .tuple #[.string .empty, .int .i64 50] ∧ h' = h := by
      apply F46_ok
      unfold F46
      rw [decide_eq_true (show ((b.size : Int) > 16777208) by omega), cond_true]
      exact ⟨rfl, rfl⟩
    refine this.mono ?_
    rintro v h1 ⟨rfl, rfl⟩
    refine ⟨_, _, rfl, ?_⟩
    rw [show ((50 : Int) != 0) = true from rfl, cond_true]
    have e : A.put dir name (sb b) = (A, 50) := by unfold AF.FS.put; rw [if_pos (by omega)]
    rw [e]
    exact ⟨rfl, H⟩
  · refine (F46_spec H (by omega)).mono ?_
    rintro v h1 ⟨rfl, H1⟩
    refine ⟨_, _, rfl, ?_⟩
    rw [show ((0 : Int) != 0) = false from rfl, cond_false]
    have h8 := Frame.packN_B8 (sb_B8 b)
    have hpl : (ofN (Frame.packN (sb b))).size = 8 + b.size := by rw [← sb_length, sb_ofN h8, Frame.packN_length, hbl]
    refine (F16_spec (b := ofN (Frame.packN (sb b))) W hs hm (by omega) H1).mono ?_
    rintro v h2 ⟨rfl, H2⟩
    rw [DI_int]
    rw [sb_ofN h8] at H2 ⊢
    have e : A.put dir name (sb b) = A.raw dir name (Frame.packN (sb b)) := by unfold AF.FS.put; rw [if_neg (by omega)]
    rw [e]
    exact ⟨rfl, H2⟩
theorem F18_spec (W : A.WF) (H : sat (refP m A :: F) h) : CallsH Tryz.prog 18 [ptrV m, .string dir, .string name] h fun v h' => v = readRV (A.get dir name) ∧ sat (refP m A :: F) h' := by
  apply F18_ok
  unfold F18
  refine (F71_spec W H).mono ?_
  rintro v h1 ⟨rfl, rfl⟩
  unfold AF.FS.get
  cases hr : A.read dir name with
  | error e =>
    have e0 : e ≠ 0 := by
      unfold AF.FS.read at hr
      cases he : A.entry dir name with
      | error e2 => rw [he] at hr; cases hr; exact entry_err he
      | ok p => rw [he] at hr; cases hr
    refine ⟨_, _, rfl, ?_⟩
    rw [err_bne e0, cond_true]
    exact ⟨rfl, H⟩
  | ok bs =>
    have hbs : bs.length ≤ 16777216 ∧ B8 bs := by
      unfold AF.FS.read at hr
      cases he : A.entry dir name with
      | error e2 => rw [he] at hr; cases hr
      | ok p =>
        obtain ⟨i, k⟩ := p
        obtain ⟨d, y, _, _, _, hy, _⟩ := entry_full W he
        rw [he] at hr
        simp only [Except.ok.injEq, AF.X_of hy] at hr
        subst hr
        exact ⟨(W.files y (List.mem_of_getElem? hy)).2.1, (W.files y (List.mem_of_getElem? hy)).2.2⟩
    obtain ⟨hbl, h8⟩ := hbs
    refine ⟨_, _, rfl, ?_⟩
    rw [show ((0 : Int) != 0) = false from rfl, cond_false]
    have hsz : (ofN bs).size = bs.length := by rw [← sb_length, sb_ofN h8]
    refine (F72_spec (s := ofN bs) (p := 0) H (Nat.zero_le _) (by omega)).mono ?_
    rintro v h2 ⟨rfl, H2⟩
    rw [sb_ofN h8, List.drop_zero]
    have hf := Frame.firstN_refAt h8
    have hB : B8 (Frame.refAt bs).1 := by
      unfold Frame.refAt
      split
      · exact fun n hn => by cases hn
      · split
        · exact fun n hn => by cases hn
        · exact (h8.drop 8).take _
    have hl1 : (Frame.refAt bs).1.length ≤ bs.length := by
      unfold Frame.refAt
      split
      · exact Nat.zero_le _
      · split
        · exact Nat.zero_le _
        · rw [List.length_take, List.length_drop]; omega
    refine ⟨_, _, rfl, ?_⟩
    simp only []
    rw [hf]
    cases hr2 : (Frame.refAt bs).2 with
    | false =>
      rw [Bool.not_false, cond_true]
      simp only [Bool.false_eq_true, if_false]
      exact ⟨rfl, H2⟩
    | true =>
      rw [Bool.not_true, cond_false]
      simp only [if_true]
      have hz : (ofN (Frame.refAt bs).1).size = (Frame.refAt bs).1.length := by rw [← sb_length, sb_ofN hB]
      rw [hz, hsz, IntWalk.i64_in _ (by omega)]
      by_cases hl : (Frame.refAt bs).1.length + 8 = bs.length
      · rw [if_pos hl, show ((((Frame.refAt bs).1.length : Int) + 8) != (bs.length : Int)) = false by rw [bne_eq_false_iff_eq]; omega, cond_false]
        exact ⟨rfl, H2⟩
      · rw [if_neg hl, show ((((Frame.refAt bs).1.length : Int) + 8) != (bs.length : Int)) = true by rw [bne_iff_ne]; omega, cond_true]
        exact ⟨rfl, H2⟩
theorem F20_spec (W : A.WF) (hs : A.steps + 10000 < 1099511627776) (hm : A.files.length + 10000 < 1099511627776) (H : sat (refP m A :: F) h) :
    CallsH Tryz.prog 20 [ptrV m, .string dir] h fun v h' => v = cleanV (A.clean dir).2 ∧ (∀ e, (A.clean dir).2 = .error e → e ≠ 0) ∧ sat (refP m (A.clean dir).1 :: F) h' := by
  apply F20_ok
  unfold F20
  refine (F61_spec W H).mono ?_
  rintro v h1 (⟨ks, a, c, hli, rfl, H1⟩ | ⟨e, hli, e0, rfl, H1⟩)
  · refine ⟨a, ks.length, c, 0, rfl, ?_⟩
    rw [show ((0 : Int) != 0) = false from rfl, cond_false]
    have hf := AF.list_few W hli
    refine ⟨fun st hh => ∃ (i n : Nat) (B : AF.FS), st = ((n : Int), (i : Int)) ∧ i ≤ ks.length ∧ n ≤ i ∧ AF.cleanGo dir (ks.take i) A 0 = (B, .ok n) ∧ sat (ownS 9 1 a ks.length c (ks.map Value.string) :: refP m B :: F) hh,
      fun st _ => ((ks.length : Int) - st.2).toNat, ⟨0, 0, A, rfl, Nat.zero_le _, Nat.le_refl _, rfl, H1⟩, ?_⟩
    rintro st h2 ⟨i, n, B, rfl, hi, hn, hB, H2⟩
    have TB := AF.cleanGo_tame dir (ks.take i) A 0 W
    rw [hB] at TB
    obtain ⟨WB, GB⟩ := TB
    have gb1 := GB.1
    have gb2 := GB.2
    rw [List.length_take] at gb1 gb2
    simp only []
    by_cases hlt : i < ks.length
    · rw [decide_eq_true (show ((i : Int) < (ks.length : Int)) by omega), cond_true]
      obtain ⟨s, hsi⟩ : ∃ s, ks[i]? = some s := ⟨_, List.getElem?_eq_getElem hlt⟩
      have htk : ks.take (i + 1) = ks.take i ++ [s] := by rw [List.take_add_one, hsi]; rfl
      have hgo : AF.cleanGo dir (ks.take (i + 1)) A 0 = AF.cleanGo dir [s] B n := by rw [htk, AF.cleanGo_append, hB]
      have on : ∀ (n2 : Nat) (B2 : AF.FS) hx, n2 ≤ n + 1 → AF.cleanGo dir (ks.take (i + 1)) A 0 = (B2, .ok n2) → sat (ownS 9 1 a ks.length c (ks.map Value.string) :: refP m B2 :: F) hx →
          (∃ (i_1 n_1 : Nat) (B_1 : AF.FS), ((n2 : Int), IntKind.wrap .i64 ((i : Int) + 1)) = ((n_1 : Int), (i_1 : Int)) ∧ i_1 ≤ ks.length ∧ n_1 ≤ i_1 ∧ AF.cleanGo dir (ks.take i_1) A 0 = (B_1, .ok n_1) ∧ sat (ownS 9 1 a ks.length c (ks.map Value.string) :: refP m B_1 :: F) hx) ∧
            ((ks.length : Int) - IntKind.wrap .i64 ((i : Int) + 1)).toNat < ((ks.length : Int) - (i : Int)).toNat := by
        intro n2 B2 hx hn2 hB2 HX
        rw [wrap64_succ (by omega)]
        exact ⟨⟨i + 1, n2, B2, rfl, by omega, by omega, hB2, HX⟩, by omega⟩
      refine strRead (ownS_read H2) rfl hsi fun b2 hc => CStr hc ?_
      have skip : AF.isTmp s = false → AF.cleanGo dir (ks.take (i + 1)) A 0 = (B, .ok n) := fun ht => by rw [hgo]; unfold AF.cleanGo; rw [ht, if_neg (by decide)]; rfl
      by_cases h4 : 4 ≤ s.size
      · rw [decide_eq_true (show ((s.size : Int) ≥ 4) by omega), cond_true]
        refine strRead (ownS_read H2) rfl hsi fun b3 hc3 => CStr hc3 ?_
        refine ⟨by omega, by omega, by omega, ?_⟩
        have et : strEq (s.extract (0 : Int).toNat (4 : Int).toNat) ⟨#[116, 109, 112, 46]⟩ = AF.isTmp s := by
          unfold AF.isTmp
          rw [decide_eq_true h4, Bool.true_and, strEq_eq, sb_extract]
          rfl
        simp only [et]
        cases ht : AF.isTmp s with
        | false =>
          rw [cond_false]
          exact on n B h2 (Nat.le_succ _) (skip ht) H2
        | true =>
          rw [cond_true]
          refine strRead (ownS_read H2) rfl hsi fun b4 hc4 => CStr hc4 ?_
          refine (F63_spec WB (by omega) (H2.mv 1)).mono ?_
          rintro v h3 ⟨rfl, H3⟩
          rw [DI_int]
          by_cases e1 : (B.remove dir s).2 = 0
          · rw [zero_bne e1, cond_false, wrap64_succ (show n < 9223372036854775807 by omega)]
            refine on (n + 1) (B.remove dir s).1 h3 (Nat.le_refl _) ?_ (H3.mv 1)
            rw [hgo]
            unfold AF.cleanGo
            rw [ht, if_pos rfl, if_pos e1]
            rfl
          · rw [err_bne e1, cond_true]
            have hge : AF.cleanGo dir (ks.take (i + 1)) A 0 = ((B.remove dir s).1, .error (B.remove dir s).2) := by
              rw [hgo]
              unfold AF.cleanGo
              rw [ht, if_pos rfl, if_neg e1]
            have hall : AF.cleanGo dir ks A 0 = ((B.remove dir s).1, .error (B.remove dir s).2) := by
              have e : ks = ks.take (i + 1) ++ ks.drop (i + 1) := (List.take_append_drop _ _).symm
              rw [e, AF.cleanGo_append, hge]
            have ec : A.clean dir = ((B.remove dir s).1, .error (B.remove dir s).2) := by unfold AF.FS.clean; rw [hli]; simp only [hall]
            rw [ec]
            exact ⟨rfl, fun e he => by cases he; exact e1, H3.ordT 2 [0]⟩
      · rw [decide_eq_false (show ¬ ((s.size : Int) ≥ 4) by omega), cond_false]
        exact on n B h2 (Nat.le_succ _) (skip (by unfold AF.isTmp; rw [decide_eq_false h4, Bool.false_and])) H2
    · rw [decide_eq_false (show ¬ ((i : Int) < (ks.length : Int)) by omega), cond_false]
      rw [List.take_of_length_le (by omega)] at hB
      by_cases hn0 : 0 < n
      · rw [decide_eq_true (show ((n : Int) > 0) by omega), cond_true]
        refine (F68_spec WB (by omega) (H2.mv 1)).mono ?_
        rintro v h3 ⟨rfl, H3⟩
        rw [DI_int]
        by_cases e1 : (B.syncDir dir).2 = 0
        · rw [zero_bne e1, cond_false]
          have ec : A.clean dir = ((B.syncDir dir).1, .ok n) := by unfold AF.FS.clean; rw [hli]; simp only [hB]; rw [if_pos hn0, if_pos e1]
          rw [ec]
          exact ⟨rfl, fun e he => (by cases he), H3.ordT 2 [0]⟩
        · rw [err_bne e1, cond_true]
          have ec : A.clean dir = ((B.syncDir dir).1, .error (B.syncDir dir).2) := by unfold AF.FS.clean; rw [hli]; simp only [hB]; rw [if_pos hn0, if_neg e1]
          rw [ec]
          exact ⟨rfl, fun e he => by cases he; exact e1, H3.ordT 2 [0]⟩
      · rw [decide_eq_false (show ¬ ((n : Int) > 0) by omega), cond_false]
        have ec : A.clean dir = (B, .ok n) := by unfold AF.FS.clean; rw [hli]; simp only [hB]; rw [if_neg hn0]
        rw [ec]
        exact ⟨rfl, fun e he => (by cases he), H2.drop⟩
  · refine ⟨none, 0, 0, (e : Int), rfl, ?_⟩
    rw [err_bne e0, cond_true]
    have ec : A.clean dir = (A, .error e) := by unfold AF.FS.clean; rw [hli]
    rw [ec]
    exact ⟨rfl, fun e' he => by cases he; exact e0, H1⟩
end

end Go.Proofs.YticjjdhaikbdaaaGreat
