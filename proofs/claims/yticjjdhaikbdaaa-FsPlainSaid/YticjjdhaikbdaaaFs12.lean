/- A file found by its directory and name; steps; pending operations done. -/
import Derived.Test.YticjjdhaikbdaaaFs11
namespace Go.Proofs.Yticjjdhaikbdaaa
open Go Go.RowKit Go.MapKept
set_option linter.unusedVariables false
set_option linter.unusedSimpArgs false

section
variable {b : Nat} {A : AF.FS} {q : FsQ} {F : List HProp} {h : Heap}
theorem DP_ent {xs : List Nat} {o : Option Nat} {f : Option (Nat × Value)} {K : Option Addr → Prop} (hl : f.map (·.2) = o.map fun x => ptrV (xs.getD x 0)) (hK : K (o.map fun x => ⟨xs.getD x 0, 0, none⟩)) :
    DP ((Option.map (fun x => x.2) f).getD (.pointer none)) K := by
  rw [hl]
  cases o with
  | none => exact ⟨none, rfl, hK⟩
  | some x => exact ⟨_, rfl, hK⟩
theorem F60_spec {dir name : ByteArray} (W : A.WF) (hq : fsQ A q) (H : sat (fs4 b A q F) h) (hd : dir.size < 4611686018427387904) (hn : name.size < 4611686018427387904) :
    CallsH Try.prog 60 [ptrV b, .string dir, .string name] h fun v h' => sat (fs4 b A q F) h' ∧
      ((∃ (i x : Nat) (d : AF.Dir) (y : AF.File) (fb xb : Nat), A.entry dir name = .ok (i, x) ∧ A.dirs[i]? = some d ∧ q.fbs[i]? = some fb ∧ A.files[x]? = some y ∧ q.xbs[x]? = some xb ∧ v = .tuple #[ptrV fb, ptrV xb, .int .i64 0]) ∨
       ∃ e : Nat, A.entry dir name = .error e ∧ e ≠ 0 ∧ v = .tuple #[.pointer none, .pointer none, .int .i64 (e : Int)]) := by
  apply F60_ok
  unfold F60
  refine Al_sat H fun b0 h1 H1 => ?_
  have hr : RdC h1 (some ⟨b0, 0, none⟩) ([name].map Value.string) := by
    intro j v hv
    rw [cell_of_pt H1.get]
    cases j with
    | zero => exact hv
    | succ j => simp at hv
  refine (ready_spec (ss := [name]) W hq (H1.drop) hr rfl (show 1 < 1000 by omega) hd (fun s hs => by simp at hs; rw [hs]; exact hn)).mono ?_
  rintro v h2 ⟨rfl, hcase⟩
  have H2 := H1.drop
  rcases hcase with ⟨i, d, fb, he, hdi, hfi, rfl⟩ | ⟨e, he, hne, rfl⟩
  · have w := W.each d (List.mem_of_getElem? hdi)
    obtain ⟨nb, bb, a, c, es, hfb, hes, hsz, hlk⟩ := dir_read (H2.mv 3) hdi hfi w.ok.up
    obtain ⟨f, hf, hl⟩ := hlk name
    refine ⟨some ⟨fb, 0, none⟩, 0, rfl, ?_⟩
    rw [show ((0 : Int) == 0) = true from rfl, cond_true]
    simp only [NN'_some', addr_add0]
    have rd : ∀ K : Value → Prop, K (.map (some nb)) → Ld h2 ⟨fb, 0, none⟩ K := fun K hK => ⟨_, by rw [cellAt_of hfb]; rfl, hK⟩
    refine rd _ ?_
    rw [DM_map]
    refine ⟨es, hes, f, hf, DP_ent hl ?_⟩
    cases ho : AF.of d.now name with
    | none =>
      refine ⟨H2, .inr ⟨62, ?_, by omega, rfl⟩⟩
      unfold AF.FS.entry
      rw [he]
      simp only [AF.D_of hdi, ho]
    | some x =>
      show bif (false : Bool) then _ else _
      rw [cond_false, show ((0 : Int) != 0) = false from rfl, cond_false]
      refine rd _ ?_
      rw [DM_map]
      refine ⟨es, hes, f, hf, DP_ent hl ?_⟩
      rw [ho]
      have hx := (w.ok.each _ (AF.of_mem ho)).1
      obtain ⟨y, xb, h1, h3, h4⟩ := xb_of hq hx
      refine ⟨H2, .inl ⟨i, x, d, y, fb, xb, ?_, hdi, hfi, h1, h3, ?_⟩⟩
      · unfold AF.FS.entry
        rw [he]
        simp only [AF.D_of hdi, ho]
      · show Value.tuple #[ptrV fb, ptrV (q.xbs.getD x 0), .int .i64 0] = _
        rw [h4]
  · refine ⟨none, (e : Int), rfl, ?_⟩
    have e0 : ((e : Int) == 0) = false := by
      rw [beq_eq_false_iff_ne]
      rcases hne with rfl | rfl | rfl <;> decide
    have e1 : ((e : Int) != 0) = true := by rw [bne, e0]; rfl
    rw [e0, cond_false, e1, cond_true]
    refine ⟨H2, .inr ⟨e, ?_, by omega, rfl⟩⟩
    unfold AF.FS.entry
    rw [he]
theorem fuse_bound (W : A.WF) : -1 ≤ fuseI A.fuse ∧ fuseI A.fuse ≤ 9223372036854775807 := by
  unfold fuseI
  cases hf : A.fuse with
  | none => exact ⟨by decide, by decide⟩
  | some n =>
    have := W.fuse n hf
    simp only
    omega
theorem step_spec {md : Nat} (W : A.WF) (hs : A.steps < 1099511627776) (H : sat (rawOf b A md :: F) h) : CallsH Try.prog 57 [ptrV b] h fun v h' =>
    (A.fuse = some 0 ∧ v = .int .i64 60 ∧ sat (rawOf b { A with off := true } md :: F) h') ∨ (A.fuse ≠ some 0 ∧ v = .int .i64 0 ∧ sat (rawOf b A.stepOn md :: F) h') := by
  refine (F57_spec H (fuse_bound W) ⟨by omega, by omega⟩).mono ?_
  rintro v h1 (⟨h0, rfl, H1⟩ | ⟨h0, rfl, H1⟩)
  · refine .inl ⟨?_, rfl, ?_⟩
    · unfold fuseI at h0
      cases hf : A.fuse with
      | none => rw [hf] at h0; cases h0
      | some n => rw [hf] at h0; simp only at h0; congr; omega
    · exact H1
  · refine .inr ⟨?_, rfl, ?_⟩
    · intro hf
      rw [hf] at h0
      exact h0 rfl
    · have e1 : (if fuseI A.fuse < 0 then -1 else fuseI A.fuse - 1) = fuseI (A.fuse.map (· - 1)) := by
        cases hf : A.fuse with
        | none => rfl
        | some n =>
          rw [hf] at h0
          have h2 : (n : Int) ≠ 0 := h0
          rw [if_neg (show ¬ fuseI (some n) < 0 from by show ¬ ((n : Int) < 0); omega)]
          show (n : Int) - 1 = ((n - 1 : Nat) : Int)
          omega
      rw [e1] at H1
      exact H1
end
/-! ### pending operations -/
theorem ro_two {h : Heap} {c : Nat} {o : Obj} {F G : List HProp} (H : sat (ro c o :: F) h) : h[c]? = some o := H.getRo
theorem opP_pers (xbs : List Nat) (o : AF.Op) (v : Value) : Pers (opP xbs o v) := by
  cases o with
  | create n f =>
    refine Pers.exi fun q => Pers.many fun A hA => ?_
    simp only [List.mem_cons, List.not_mem_nil, or_false] at hA
    rcases hA with rfl | rfl | rfl
    · exact Pers.pur _
    · exact ro_pers _ _
    · exact ro_pers _ _
  | rename a b =>
    refine Pers.exi fun q => Pers.many fun A hA => ?_
    simp only [List.mem_cons, List.not_mem_nil, or_false] at hA
    rcases hA with rfl | rfl | rfl
    · exact Pers.pur _
    · exact ro_pers _ _
    · exact ro_pers _ _
  | remove a =>
    refine Pers.exi fun q => Pers.many fun A hA => ?_
    simp only [List.mem_cons, List.not_mem_nil, or_false] at hA
    rcases hA with rfl | rfl
    · exact Pers.pur _
    · exact ro_pers _ _
theorem CallV_fn {P : Program} {f : FuncId} {first cap : Array Value} {args : List Value} {h : Heap} {Q : Value → Heap → Prop} (H : CallsH P f (first.toList ++ args ++ cap.toList) h Q) : CallV P (.func (.func f) first cap) args h Q := H
theorem op_call {xbs : List Nat} {mb n : Nat} {l : AF.Names} {o : AF.Op} {v : Value} {F : List HProp} {h : Heap} (H : sat (namesP xbs mb l :: opP xbs o v :: F) h) (hk : AF.Ok n l) (hf : AF.Fits n l o) :
    CallV Try.prog v [.map (some mb)] h fun r h' => r = .tuple #[] ∧ sat (namesP xbs mb (AF.does l o) :: opP xbs o v :: F) h' := by
  have Hd := ((H.mv 1).dup (opP_pers xbs o v)).mv 2
  obtain ⟨m, hp, H1⟩ := names_open Hd
  cases o with
  | create k x =>
    obtain ⟨⟨b1, b2⟩, H2⟩ := sat_exi.1 (H1.mv 1)
    obtain ⟨hv, H3⟩ := sat_pur.1 H2.open
    subst hv
    have H4 : sat (ownM strKeys mb m :: ro b1 (.cells #[ptrV (xbs.getD x 0)] 92 (0, 0)) :: ro b2 (.cells #[.string k] 9 (0, 0)) :: _) h := H3.mv 2
    refine CallV_fn ?_
    refine CallsH.mono (F59_spec (bx := b1) (bn := b2) H4 (H4.mv 1).getRo (H4.mv 2).getRo) ?_
    rintro r h' ⟨rfl, H5⟩
    exact ⟨rfl, names_shut (ent_upd hp hk.up k x) ((H5.mv 1).drop.mv 1).drop⟩
  | remove k =>
    obtain ⟨b2, H2⟩ := sat_exi.1 (H1.mv 1)
    obtain ⟨hv, H3⟩ := sat_pur.1 H2.open
    subst hv
    have H4 : sat (ownM strKeys mb m :: ro b2 (.cells #[.string k] 9 (0, 0)) :: _) h := H3.mv 1
    refine CallV_fn ?_
    refine CallsH.mono (F68_spec (bn := b2) H4 (H4.mv 1).getRo) ?_
    rintro r h' ⟨rfl, H5⟩
    exact ⟨rfl, names_shut (ent_del hp k) (H5.mv 1).drop⟩
  | rename k k2 =>
    obtain ⟨⟨b1, b2⟩, H2⟩ := sat_exi.1 (H1.mv 1)
    obtain ⟨hv, H3⟩ := sat_pur.1 H2.open
    subst hv
    have H4 : sat (ownM strKeys mb m :: ro b1 (.cells #[.string k] 9 (0, 0)) :: ro b2 (.cells #[.string k2] 9 (0, 0)) :: _) h := H3.mv 2
    obtain ⟨x, hx⟩ := Option.isSome_iff_exists.1 hf.2.2
    refine CallV_fn ?_
    refine CallsH.mono (F62_spec (ba := b1) (bb := b2) (a := k) (b := k2) (p := some ⟨xbs.getD x 0, 0, none⟩) H4 (H4.mv 1).getRo (fun h' H' => (H'.mv 2).getRo) (by rw [ent_lk hp hk.up, hx]; rfl)) ?_
    rintro r h' ⟨rfl, H5⟩
    have hp2 := ent_upd (ent_del hp k) (hk.up.drop k) k2 x
    refine ⟨rfl, ?_⟩
    have e : AF.does l (.rename k k2) = AF.ins k2 x (AF.drop l k) := by
      simp only [AF.does, hx]
    rw [e]
    exact names_shut hp2 ((H5.mv 1).drop.mv 1).drop

end Go.Proofs.Yticjjdhaikbdaaa
