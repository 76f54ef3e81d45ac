/- Create. -/
import Derived.Test.YticjjdhaikbdaaaFs15
namespace Go.Proofs.Yticjjdhaikbdaaa
open Go Go.RowKit Go.MapKept
set_option linter.unusedVariables false
set_option linter.unusedSimpArgs false

/-! ### blocks of files behind the others -/
def sameB (n : Nat) (xs ys : List Nat) : Prop := ∀ x, x < n → xs.getD x 0 = ys.getD x 0
theorem names_same {n : Nat} {xs ys : List Nat} (hs : sameB n xs ys) {mb : Nat} {l : AF.Names} (hk : ∀ p ∈ l, p.2 < n) : namesP xs mb l = namesP ys mb l := by
  have e : l.map (entV xs) = l.map (entV ys) := List.map_congr_left fun p hp => by unfold entV; rw [hs p.2 (hk p hp)]
  have e2 : (l.map fun p => (p.1, ptrV (xs.getD p.2 0))) = l.map fun p => (p.1, ptrV (ys.getD p.2 0)) := e
  unfold namesP
  rw [e2]
theorem op_same {n : Nat} {xs ys : List Nat} (hs : sameB n xs ys) {o : AF.Op} (hk : ∀ x ∈ AF.opFiles o, x < n) (v : Value) : opP xs o v = opP ys o v := by
  cases o with
  | create k f => simp only [opP, hs f (hk f (by simp [AF.opFiles]))]
  | rename a b => rfl
  | remove a => rfl
theorem zip_congr {α β γ : Type} {E G : α → β → γ} : ∀ {xs : List α} {ys : List β}, (∀ x ∈ xs, ∀ y, E x y = G x y) → List.zipWith E xs ys = List.zipWith G xs ys
  | [], ys, h => by simp
  | x :: xs, [], h => by simp
  | x :: xs, y :: ys, h => by
    rw [List.zipWith_cons_cons, List.zipWith_cons_cons, h x (by simp), zip_congr fun z hz => h z (List.mem_cons_of_mem _ hz)]
theorem ownL_congr {α : Type} {E G : α → Value → HProp} {e : TypeId} {a : Option Addr} {l c : Nat} {xs : List α} (h : ∀ x ∈ xs, ∀ v, E x v = G x v) : ownL E e a l c xs = ownL G e a l c xs := by
  unfold ownL
  congr 1
  funext vs
  rw [zip_congr h]
theorem speaks_op {d : AF.Dir} {o : AF.Op} (ho : o ∈ d.pend) {x : Nat} (hx : x ∈ AF.opFiles o) : x ∈ d.speaks := List.mem_append.2 (.inr (List.mem_flatMap.2 ⟨o, ho, hx⟩))
theorem dir_same {n s : Nat} {xs ys : List Nat} (hs : sameB n xs ys) {d : AF.Dir} (w : d.WF n s) (fb : Nat) : dirP xs d fb = dirP ys d fb := by
  unfold dirP
  congr 1
  funext r
  rw [names_same hs fun p hp => (w.ok.each p hp).1, names_same hs fun p hp => (w.runs.first.each p hp).1, ownL_congr fun o ho v => op_same hs (fun x hx => AF.speaks_of w (speaks_op ho hx)) v]
theorem dirs_same {n s : Nat} {xs ys fbs : List Nat} (hs : sameB n xs ys) {ds : List AF.Dir} (w : ∀ d ∈ ds, d.WF n s) : dirsP xs fbs ds = dirsP ys fbs ds := by
  unfold dirsP
  rw [zip_congr fun d hd fb => dir_same hs (w d hd) fb]
theorem sameB_snoc (xs : List Nat) (x : Nat) : sameB xs.length xs (xs ++ [x]) := fun i hi => by
  rw [List.getD_eq_getElem?_getD, List.getD_eq_getElem?_getD, List.getElem?_append_left hi]
theorem used_newFile {A : AF.FS} (W : A.WF) (y : AF.File) : AF.FS.used { A with files := A.files ++ [y] } = A.used := by
  unfold AF.FS.used
  congr 1
  apply List.map_congr_left
  intro x hx
  have := W.idx_lt hx
  show ((A.files ++ [y]).getD x default).b.length = (A.files.getD x default).b.length
  rw [List.getD_eq_getElem?_getD, List.getD_eq_getElem?_getD, List.getElem?_append_left this]
section
variable {b : Nat} {A : AF.FS} {q : FsQ} {F : List HProp} {h : Heap}
theorem file_new {xb : Nat} (H : sat (pt xb (.cells #[.slice none 0 0, .int .i64 0] 94 (0, 0)) :: F) h) : sat (fileP ⟨[], 0⟩ xb :: F) h := by
  refine sat_exi.2 ⟨(none, 0), sat.shut (m := [pt xb (.cells #[.slice none 0 0, .int .i64 ((0 : Nat) : Int)] 94 (0, 0)), ownS 5 1 none 0 0 []]) ?_⟩
  exact (ownS_nil 5 1 H).mv 1
theorem RdC1 {b0 : Nat} {e : TypeId} {v : Value} (H : sat (pt b0 (.cells #[v] e (0, 0)) :: F) h) : RdC h (some ⟨b0, 0, none⟩) [v] := by
  intro j u hv
  rw [cell_of_pt H.get]
  cases j with
  | zero => exact hv
  | succ j => simp at hv
theorem F17_spec {dir name : ByteArray} (W : A.WF) (hs : A.steps < 1099511627776) (hd : dir.size < 4611686018427387904) (hn : name.size < 4611686018427387904) (H : sat (fsP b A :: F) h) :
    CallsH Try.prog 17 [ptrV b, .string dir, .string name] h fun v h' => v = .int .i64 ((A.create dir name).2 : Int) ∧ sat (fsP b (A.create dir name).1 :: F) h' := by
  obtain ⟨q, hq, H0⟩ := fsP_open H
  apply F17_ok
  unfold F17
  refine Al_sat H0 fun b0 h1 H1 => ?_
  refine LdV (v := .string name) H1.get rfl ?_
  rw [DS_string]
  refine Al_sat H1 fun b1 h2 H2 => ?_
  have H3 : sat (fs4 b A q (pt b0 (.cells #[.string name] 9 (0, 0)) :: pt b1 (.cells #[.string name] 9 (0, 0)) :: F)) h2 := H2.ordT 6 [2, 3, 4, 5, 1, 0]
  refine (ready_spec (ss := [name]) W hq H3 (RdC1 H2) rfl (show 1 < 1000 by omega) hd (fun s hs => by simp at hs; rw [hs]; exact hn)).mono ?_
  rintro v h3 ⟨rfl, hcase⟩
  have Hd : sat (fs4 b A q F) h3 := (((H3.mv 5).drop).mv 4).drop
  rcases hcase with ⟨i, d, fb, he, hdi, hfi, rfl⟩ | ⟨e, he, hne, rfl⟩
  · have w := W.each d (List.mem_of_getElem? hdi)
    obtain ⟨nb, bb, a, c, es, hfb, hes, hsz, hlk⟩ := dir_read (H3.mv 3) hdi hfi w.ok.up
    obtain ⟨f, hf, hl⟩ := hlk name
    refine ⟨some ⟨fb, 0, none⟩, 0, rfl, ?_⟩
    rw [show ((0 : Int) != 0) = false from rfl, cond_false]
    simp only [NN'_some', addr_add0]
    have rd : ∀ K : Value → Prop, K (.map (some nb)) → Ld h3 ⟨fb, 0, none⟩ K := fun K hK => ⟨_, by rw [cellAt_of hfb]; rfl, hK⟩
    refine rd _ ?_
    rw [DM_map]
    refine LdV (v := .string name) (H3.mv 4).get rfl ?_
    rw [DS_string]
    refine ⟨es, hes, f, hf, DP_ent hl ?_⟩
    have hD := AF.D_of hdi
    cases ho : AF.of d.now name with
    | some x =>
      show bif (true : Bool) then _ else _
      rw [cond_true]
      have e : A.create dir name = (A, 63) := by
        unfold AF.FS.create
        rw [he]
        simp only [hD, ho, Option.isSome_some, if_true]
      rw [e]
      exact ⟨rfl, fsP_shut q hq Hd⟩
    | none =>
      show bif (false : Bool) then _ else _
      rw [cond_false]
      refine rd _ ?_
      rw [DM_map]
      refine ⟨es, hes, ?_⟩
      rw [hsz]
      by_cases h64 : 4096 ≤ d.now.length
      · rw [decide_eq_true (show ((d.now.length : Int) ≥ 4096) by omega), cond_true]
        have e : A.create dir name = (A, 66) := by
          unfold AF.FS.create
          rw [he]
          simp only [hD, ho, Option.isSome_none, Bool.false_eq_true, if_false, if_pos h64]
        rw [e]
        exact ⟨rfl, fsP_shut q hq Hd⟩
      · rw [decide_eq_false (show ¬ ((d.now.length : Int) ≥ 4096) by omega), cond_false]
        have e : A.create dir name = A.step fun g => AF.FS.did { g with files := g.files ++ [⟨[], 0⟩] } i (.create name g.files.length) := by
          unfold AF.FS.create
          rw [he]
          simp only [hD, ho, Option.isSome_none, Bool.false_eq_true, if_false, if_neg h64]
        refine Al_sat H3 fun b2 h4 H4 => Al_sat H4 fun b3 h5 H5 => ?_
        refine stV (v := ptrV b2) H5 fun h6 H6 => ?_
        obtain ⟨_, hdr, hr, _, _⟩ := AF.ready_ok he
        have hrn := hr name (by simp)
        have hx : (q.xbs ++ [b2]).getD A.files.length 0 = b2 := by
          rw [← hq.2.2, List.getD_eq_getElem?_getD, List.getElem?_append_right (Nat.le_refl _)]
          simp
        -- the parts: b3, b2, raw, ownM, files, dirs, b0, b1
        have H7 := (H6.freeze.mv 6).freeze
        -- b0, b3, b2, raw, ownM, files, dirs, b1
        have H8 : sat (rawOf b A q.md :: ownM strKeys q.md q.m :: filesP (q.xbs ++ [b2]) (A.files ++ [⟨[], 0⟩]) :: dirsP (q.xbs ++ [b2]) q.fbs A.dirs :: opP (q.xbs ++ [b2]) (.create name A.files.length) (.func (.func 59) #[] #[ptrV b3, ptrV b0]) :: F) h6 := by
          have K1 := file_new (H7.mv 2)
          -- file, b0, b3, raw, ownM, files, dirs, b1
          have K2 : sat (filesP q.xbs A.files :: fileP ⟨[], 0⟩ b2 :: ro b0 (.cells #[.string name] 9 (0, 0)) :: ro b3 (.cells #[ptrV b2] 92 (0, 0)) :: rawOf b A q.md :: ownM strKeys q.md q.m :: dirsP q.xbs q.fbs A.dirs :: F) h6 := (((K1.mv 7).drop).mv 5)
          have K3 := many_new hq.2.2.symm K2
          have K4 : sat (Many [pur ((Value.func (.func 59) #[] #[ptrV b3, ptrV b0]) = .func (.func 59) #[] #[ptrV b3, ptrV b0]), ro b3 (.cells #[ptrV ((q.xbs ++ [b2]).getD A.files.length 0)] 92 (0, 0)), ro b0 (.cells #[.string name] 9 (0, 0))] ::
              filesP (q.xbs ++ [b2]) (A.files ++ [⟨[], 0⟩]) :: rawOf b A q.md :: ownM strKeys q.md q.m :: dirsP q.xbs q.fbs A.dirs :: F) h6 := by
            refine sat.shut ?_
            refine sat_pur.2 ⟨rfl, ?_⟩
            rw [hx]
            exact K3.ordT 6 [2, 1, 0, 3, 4, 5]
          have K5 : sat (opP (q.xbs ++ [b2]) (.create name A.files.length) (.func (.func 59) #[] #[ptrV b3, ptrV b0]) :: filesP (q.xbs ++ [b2]) (A.files ++ [⟨[], 0⟩]) :: rawOf b A q.md :: ownM strKeys q.md q.m :: dirsP q.xbs q.fbs A.dirs :: F) h6 := sat_exi.2 ⟨(b3, b0), K4⟩
          have es : dirsP q.xbs q.fbs A.dirs = dirsP (q.xbs ++ [b2]) q.fbs A.dirs := dirs_same (n := A.files.length) (s := A.steps) (by rw [← hq.2.2]; exact sameB_snoc _ _) W.each
          rw [es] at K5
          exact K5.ordT 5 [2, 3, 1, 4, 0]
        have eu := used_newFile W ⟨[], 0⟩
        have eraw : rawOf b A q.md = rawOf b { A with files := A.files ++ [⟨[], 0⟩] } q.md := by unfold rawOf; rw [eu]
        rw [eraw] at H8
        have W1 : AF.FS.WF { A with files := A.files ++ [⟨[], 0⟩] } := W.newFile
        have hq1 : fsQ { A with files := A.files ++ [⟨[], 0⟩] } ⟨q.md, q.fbs, q.xbs ++ [b2], q.m⟩ := ⟨hq.1, hq.2.1, by simp [hq.2.2]⟩
        have hfit : AF.Fits (A.files ++ [(⟨[], 0⟩ : AF.File)]).length d.now (.create name A.files.length) := by
          rw [List.length_append]
          exact AF.create_fits W hdi hrn (by omega)
        refine (F58_spec (A := { A with files := A.files ++ [⟨[], 0⟩] }) (q := ⟨q.md, q.fbs, q.xbs ++ [b2], q.m⟩) (i := i) (o := .create name A.files.length) W1 (AF.create_wf W hdi hrn (by omega)) hq1 hdi hfi hfit hs H8).mono ?_
        rintro v h7 ⟨rfl, H9⟩
        rw [DI_int, e]
        unfold AF.FS.step at H9 ⊢
        by_cases h0 : A.fuse = some 0
        · rw [if_pos h0] at H9 ⊢
          rw [if_pos h0]
          refine ⟨rfl, fsP_shut (A := { A with off := true }) q hq ?_⟩
          -- the new file is forgotten
          have es : dirsP (q.xbs ++ [b2]) q.fbs A.dirs = dirsP q.xbs q.fbs A.dirs := (dirs_same (n := A.files.length) (s := A.steps) (by rw [← hq.2.2]; exact sameB_snoc _ _) W.each).symm
          have eraw2 : rawOf b { ({ A with files := A.files ++ [⟨[], 0⟩] } : AF.FS) with off := true } q.md = rawOf b { A with off := true } q.md := by
            have : AF.FS.used { ({ A with files := A.files ++ [⟨[], 0⟩] } : AF.FS) with off := true } = AF.FS.used { A with off := true } := eu
            unfold rawOf
            rw [this]
          have K1 : sat (filesP (q.xbs ++ [b2]) (A.files ++ [⟨[], 0⟩]) :: rawOf b { A with off := true } q.md :: ownM strKeys q.md q.m :: dirsP q.xbs q.fbs A.dirs :: F) h7 := by
            rw [← eraw2, ← es]
            exact H9.ordT 4 [2, 0, 1, 3]
          have K2 : sat (filesP q.xbs A.files :: rawOf b { A with off := true } q.md :: ownM strKeys q.md q.m :: dirsP q.xbs q.fbs A.dirs :: F) h7 := by
            have K3 := K1.open
            rw [List.zipWith_append hq.2.2.symm, List.append_assoc] at K3
            have K4 := K3.shut
            exact (K4.mv 1).drop
          exact K2.ordT 4 [1, 2, 0, 3]
        · rw [if_neg h0] at H9 ⊢
          rw [if_neg h0]
          exact ⟨rfl, fsP_shut ⟨q.md, q.fbs, q.xbs ++ [b2], q.m⟩ (fsQ_did hq1 i _) H9⟩
  · refine ⟨none, (e : Int), rfl, ?_⟩
    have e0 : e ≠ 0 := by omega
    rw [err_bne e0, cond_true]
    unfold AF.FS.create
    rw [he]
    exact ⟨rfl, fsP_shut q hq Hd⟩
end

end Go.Proofs.Yticjjdhaikbdaaa
