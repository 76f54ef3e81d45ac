/- A pending operation: done among the entries, kept for later. -/
import Derived.Test.YticjjdhaikbdaaaFs13
namespace Go.Proofs.Yticjjdhaikbdaaa
open Go Go.RowKit Go.MapKept
set_option linter.unusedVariables false
set_option linter.unusedSimpArgs false

theorem u89 : Try.prog.underlying 89 = some (.slice 96) := by kernel_rfl
theorem src89 : srcTy Try.prog 89 = true := by kernel_rfl
theorem inf96 : infoOk Try.prog 96 8 = true := by kernel_rfl
section
variable {b : Nat} {A : AF.FS} {q : FsQ} {F : List HProp} {h : Heap}
/-- The blocks serve on where the directories keep their names and number. -/
theorem fsQ_of {B : AF.FS} (hq : fsQ A q) (hn : B.dirs.map (·.name) = A.dirs.map (·.name)) (hf : B.files.length = A.files.length) : fsQ B q := by
  have hl : B.dirs.length = A.dirs.length := by have := congrArg List.length hn; simpa using this
  refine ⟨hq.1.trans (.of_eq ?_), by rw [hq.2.1, hl], by rw [hq.2.2, hf]⟩
  apply List.ext_getElem?
  intro i
  rw [List.getElem?_zipWith, List.getElem?_zipWith]
  have h1 : (B.dirs.map (·.name))[i]? = (A.dirs.map (·.name))[i]? := by rw [hn]
  rw [List.getElem?_map, List.getElem?_map] at h1
  cases ha : A.dirs[i]? with
  | none =>
    rw [ha] at h1
    cases hb : B.dirs[i]? with
    | none => rfl
    | some d => rw [hb] at h1; cases h1
  | some e =>
    rw [ha] at h1
    cases hb : B.dirs[i]? with
    | none => rw [hb] at h1; cases h1
    | some d =>
      rw [hb] at h1
      simp only [Option.map_some, Option.some.injEq] at h1
      cases q.fbs[i]? with
      | none => rfl
      | some fb => simp only [h1]
theorem names_modify {ds : List AF.Dir} {i : Nat} {g : AF.Dir → AF.Dir} (hg : ∀ d, (g d).name = d.name) : (ds.modify i g).map (·.name) = ds.map (·.name) := by
  apply List.ext_getElem?
  intro j
  rw [List.getElem?_map, List.getElem?_map, get_modify]
  cases ds[j]? with
  | none => rfl
  | some d =>
    by_cases h : i = j
    · simp [h, hg]
    · simp [h]
theorem fsQ_did (hq : fsQ A q) (i : Nat) (o : AF.Op) : fsQ (A.did i o) q := fsQ_of hq (names_modify fun d => rfl) rfl
theorem F58_spec {i : Nat} {d : AF.Dir} {fb : Nat} {o : AF.Op} {fv : Fn} {fp fc : Array Value} (W : A.WF) (W2 : (A.stepOn.did i o).WF) (hq : fsQ A q) (hd : A.dirs[i]? = some d) (hf : q.fbs[i]? = some fb) (hfit : AF.Fits A.files.length d.now o) (hs : A.steps < 1099511627776)
    (H : sat (fs4 b A q (opP q.xbs o (.func fv fp fc) :: F)) h) :
    CallsH Try.prog 58 [ptrV b, ptrV fb, .func fv fp fc] h fun v h' => v = .int .i64 ((A.step fun g => g.did i o).2 : Int) ∧ sat (fs4 b (A.step fun g => g.did i o).1 q F) h' := by
  apply F58_ok
  unfold F58
  refine (step_spec W hs H).mono ?_
  rintro v h1 (⟨h0, rfl, H1⟩ | ⟨h0, rfl, H1⟩)
  · rw [DI_int, show ((60 : Int) != 0) = true from rfl, cond_true]
    have e : (A.step fun g => g.did i o) = ({ A with off := true }, 60) := by unfold AF.FS.step; rw [if_pos h0]
    rw [e]
    exact ⟨rfl, (H1.mv 4).drop⟩
  · rw [DI_int, show ((0 : Int) != 0) = false from rfl, cond_false]
    simp only [NN'_some', addr_add0]
    have e : (A.step fun g => g.did i o) = (A.stepOn.did i o, 0) := by unfold AF.FS.step; rw [if_neg h0]
    rw [e]
    have w := W.each d (List.mem_of_getElem? hd)
    obtain ⟨nb, bb, a, c, H2⟩ := dir_out (H1.mv 3) hd hf
    refine LdV (v := .map (some nb)) H2.get rfl ?_
    rw [DM_map]
    have H3 : sat (namesP q.xbs nb d.now :: opP q.xbs o (.func fv fp fc) :: pt fb (dirC nb bb a d.pend.length c) :: namesP q.xbs bb d.base :: ownL (opP q.xbs) 96 a d.pend.length c d.pend :: dirR q.xbs q.fbs A.dirs i ::
      rawOf b A.stepOn q.md :: ownM strKeys q.md q.m :: filesP q.xbs A.files :: F) h1 := H2.ordT 9 [1, 8, 0, 2, 3, 4, 5, 6, 7]
    refine (op_call H3 w.ok hfit).mono ?_
    rintro r h2 ⟨rfl, H4⟩
    refine ⟨rfl, ?_⟩
    refine LdC (i := 2) (v := .slice a d.pend.length c) (H4.mv 2) rfl ?_
    rw [DSl_slice]
    refine Al_sat H4 fun b0 h3 H5 => ?_
    have hpl := w.pend
    have hr : RdC h3 (some ⟨b0, 0, none⟩) [.func fv fp fc] := by
      intro j v hv
      rw [cell_of_pt H5.get]
      cases j with
      | zero => exact hv
      | succ j => simp at hv
    have H6 : sat (ownL (opP q.xbs) 96 a d.pend.length c d.pend :: opP q.xbs o (.func fv fp fc) :: pt b0 (.cells #[.func fv fp fc] 96 (0, 0)) :: namesP q.xbs nb (AF.does d.now o) :: pt fb (dirC nb bb a d.pend.length c) :: namesP q.xbs bb d.base :: dirR q.xbs q.fbs A.dirs i ::
      rawOf b A.stepOn q.md :: ownM strKeys q.md q.m :: filesP q.xbs A.files :: F) h3 := H5.ordT 10 [5, 2, 0, 1, 3, 4, 6, 7, 8, 9]
    refine pushL (b := 8) u89 src89 inf96 (by omega) H6 rfl hr fun a2 c2 h4 H7 => ?_
    rw [DSl_slice]
    refine StCC (b := fb) (i := 2) (c' := #[.map (some nb), .map (some bb), .slice a2 (d.pend.length + 1) c2]) (H7.mv 3) (by show 2 < 3; decide) rfl fun h5 H8 => ?_
    have H9 : sat (pt fb (dirC nb bb a2 (d.did o).pend.length c2) :: namesP q.xbs nb (d.did o).now :: namesP q.xbs bb (d.did o).base :: ownL (opP q.xbs) 96 a2 (d.did o).pend.length c2 (d.did o).pend :: dirR q.xbs q.fbs A.dirs i ::
      rawOf b A.stepOn q.md :: ownM strKeys q.md q.m :: filesP q.xbs A.files :: F) h5 := by
      have e2 : (d.did o).pend.length = d.pend.length + 1 := by
        show (d.pend ++ [o]).length = _
        simp
      rw [e2]
      exact ((H8.mv 2).drop).ordT 8 [0, 2, 3, 1, 4, 5, 6, 7]
    have H10 := dir_in hd hf H9
    have e3 : A.dirs.set i (d.did o) = (A.stepOn.did i o).dirs := (modify_set (l := A.dirs) (fun d : AF.Dir => d.did o) hd).symm
    rw [e3] at H10
    refine (F66_spec (A := A.stepOn.did i o) W2 (fsQ_did hq i o) (H10.ordT 4 [1, 2, 3, 0])).mono ?_
    rintro r h6 ⟨rfl, H11⟩
    exact ⟨rfl, rfl, H11⟩
end

end Go.Proofs.Yticjjdhaikbdaaa
