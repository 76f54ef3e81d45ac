/- Maps as lists, in whatever order; directories and entries found by their names. -/
import Derived.Test.YticjjdhaikbdaaaFs10
namespace Go.Proofs.Yticjjdhaikbdaaa
open Go Go.RowKit Go.MapKept
set_option linter.unusedVariables false
set_option linter.unusedSimpArgs false

theorem F60_nil {dir name : ByteArray} {h : Heap} {F : List HProp} (H : sat F h) : CallsH Try.prog 60 [.pointer none, .string dir, .string name] h fun v h' => v = .tuple #[.pointer none, .pointer none, .int .i64 1] ∧ sat F h' := by
  apply F60_ok
  unfold F60
  refine Al_sat H fun b0 h1 H1 => ?_
  refine F56_nil.mono ?_
  rintro v h2 ⟨rfl, rfl⟩
  refine ⟨none, 1, rfl, ?_⟩
  exact ⟨rfl, H1.drop⟩

/-! ### maps as lists -/
section
variable {κ : Type} [DecidableEq κ] {m n : List (κ × Value)}
theorem lkM_mem {k : κ} {v : Value} (h : lkM m k = some v) : (k, v) ∈ m := by
  unfold lkM at h
  cases hf : m.find? (fun p => decide (p.1 = k)) with
  | none => rw [hf] at h; cases h
  | some p =>
    rw [hf] at h
    simp only [Option.map_some, Option.some.injEq] at h
    have h1 := List.find?_some hf
    simp only [decide_eq_true_eq] at h1
    have h2 := List.mem_of_find?_eq_some hf
    rw [← h, ← h1]
    exact h2
theorem mem_lkM (hu : (m.map (·.1)).Nodup) {k : κ} {v : Value} (h : (k, v) ∈ m) : lkM m k = some v := by
  induction m with
  | nil => cases h
  | cons q m ih =>
    simp only [List.map_cons, List.nodup_cons] at hu
    unfold lkM
    rw [List.find?_cons]
    rcases List.mem_cons.1 h with rfl | h
    · simp
    · have hne : q.1 ≠ k := fun e => hu.1 (by rw [e]; exact List.mem_map.2 ⟨(k, v), h, rfl⟩)
      simp only [hne, decide_false]
      exact ih hu.2 h
theorem lkM_none {k : κ} (h : ∀ p ∈ m, p.1 ≠ k) : lkM m k = none := by
  unfold lkM
  rw [List.find?_eq_none.2 fun p hp => by simpa using h p hp]
  rfl
theorem delM_none {k : κ} (h : ∀ p ∈ m, p.1 ≠ k) : delM m k = m := List.filter_eq_self.2 fun p hp => by simpa using h p hp
theorem updM_perm {k : κ} {v : Value} (hu : (m.map (·.1)).Nodup) : (updM m k v).Perm ((k, v) :: delM m k) := by
  unfold updM
  split
  · rename_i ha
    induction m with
    | nil => simp at ha
    | cons q m ih =>
      simp only [List.map_cons, List.nodup_cons] at hu
      by_cases hq : q.1 = k
      · have hno : ∀ p ∈ m, p.1 ≠ k := fun p hp e => hu.1 (by rw [hq, ← e]; exact List.mem_map.2 ⟨p, hp, rfl⟩)
        have h1 : m.map (fun p => if p.1 = k then (k, v) else p) = m := by
          conv => rhs; rw [← List.map_id m]
          exact List.map_congr_left fun p hp => by simp [hno p hp]
        have h2 : delM (q :: m) k = m := by
          unfold delM
          rw [List.filter_cons, if_neg (by simp [hq])]
          exact delM_none hno
        rw [List.map_cons, if_pos hq, h1, h2]
      · have h2 : delM (q :: m) k = q :: delM m k := by
          unfold delM
          rw [List.filter_cons, if_pos (by simp [hq])]
        have ha2 : m.any (fun p => decide (p.1 = k)) = true := by simpa [hq] using ha
        rw [List.map_cons, if_neg hq, h2]
        exact ((ih hu.2 ha2).cons q).trans (.swap _ _ _)
  · rename_i ha
    rw [delM_none fun p hp e => ha (List.any_eq_true.2 ⟨p, hp, by simpa using e⟩)]
    exact List.perm_append_comm
theorem delM_perm (h : m.Perm n) (k : κ) : (delM m k).Perm (delM n k) := h.filter _
end
/-- How an entry stands in a map of names. -/
def entV (xbs : List Nat) (p : ByteArray × Nat) : ByteArray × Value := (p.1, ptrV (xbs.getD p.2 0))
section
variable {xbs : List Nat} {m : List (ByteArray × Value)} {l : AF.Names}
theorem ent_keys : (l.map (entV xbs)).map (·.1) = l.map (·.1) := by rw [List.map_map]; rfl
theorem ent_nodup (hp : m.Perm (l.map (entV xbs))) (hu : AF.Up l) : (m.map (·.1)).Nodup := by
  rw [(hp.map (·.1)).nodup_iff, ent_keys]
  exact hu.nodup
theorem ent_lk (hp : m.Perm (l.map (entV xbs))) (hu : AF.Up l) (n : ByteArray) : lkM m n = (AF.of l n).map fun x => ptrV (xbs.getD x 0) := by
  cases ho : AF.of l n with
  | none =>
    refine lkM_none fun p hm => ?_
    obtain ⟨p', hp', rfl⟩ := List.mem_map.1 (hp.mem_iff.1 hm)
    exact AF.of_none ho p' hp'
  | some x => exact mem_lkM (ent_nodup hp hu) (hp.mem_iff.2 (List.mem_map.2 ⟨(n, x), AF.of_mem ho, rfl⟩))
theorem ent_del (hp : m.Perm (l.map (entV xbs))) (n : ByteArray) : (delM m n).Perm ((AF.drop l n).map (entV xbs)) := by
  have h := delM_perm hp n
  have e : delM (l.map (entV xbs)) n = (AF.drop l n).map (entV xbs) := by
    unfold delM AF.drop
    rw [List.filter_map]
    rfl
  rwa [e] at h
theorem ent_upd (hp : m.Perm (l.map (entV xbs))) (hu : AF.Up l) (n : ByteArray) (x : Nat) : (updM m n (ptrV (xbs.getD x 0))).Perm ((AF.ins n x l).map (entV xbs)) := by
  refine (updM_perm (ent_nodup hp hu)).trans ?_
  refine ((ent_del hp n).cons _).trans ?_
  exact ((AF.ins_perm (f := x) hu).map (entV xbs)).symm
end
/-! ### directories -/
section
variable {A : AF.FS} {q : FsQ}
theorem dirs_mem (hq : fsQ A q) {k : ByteArray} {v : Value} : (k, v) ∈ q.m ↔ ∃ (i : Nat) (d : AF.Dir) (fb : Nat), A.dirs[i]? = some d ∧ q.fbs[i]? = some fb ∧ k = d.name ∧ v = ptrV fb := by
  rw [hq.1.mem_iff]
  constructor
  · intro h
    obtain ⟨i, hi⟩ := List.getElem?_of_mem h
    rw [List.getElem?_zipWith] at hi
    cases h1 : A.dirs[i]? with
    | none => rw [h1] at hi; simp at hi
    | some d =>
      cases h2 : q.fbs[i]? with
      | none => rw [h1, h2] at hi; simp at hi
      | some fb =>
        rw [h1, h2] at hi
        simp only [Option.some.injEq, Prod.mk.injEq] at hi
        exact ⟨i, d, fb, h1, h2, hi.1.symm, hi.2.symm⟩
  · rintro ⟨i, d, fb, h1, h2, rfl, rfl⟩
    refine List.mem_of_getElem? (i := i) ?_
    rw [List.getElem?_zipWith, h1, h2]
theorem dirs_keys (hq : fsQ A q) : (q.m.map (·.1)).Perm (A.dirs.map (·.name)) := by
  refine (hq.1.map _).trans (.of_eq ?_)
  apply List.ext_getElem?
  intro i
  rw [List.getElem?_map, List.getElem?_map, List.getElem?_zipWith]
  cases h1 : A.dirs[i]? with
  | none => simp
  | some d =>
    have : i < q.fbs.length := by rw [hq.2.1]; exact (List.getElem?_eq_some_iff.1 h1).1
    rw [List.getElem?_eq_getElem this]
    rfl
theorem names_nodup (W : A.WF) : (A.dirs.map (·.name)).Nodup := by
  rw [List.Nodup, List.pairwise_map]
  refine List.Pairwise.imp ?_ W.up
  intro a b h e
  rw [← e] at h
  exact AF.strLt_irrefl a.name h
theorem dirs_nodup (W : A.WF) (hq : fsQ A q) : (q.m.map (·.1)).Nodup := (dirs_keys hq).nodup_iff.2 (names_nodup W)
theorem fb_of (hq : fsQ A q) {i : Nat} {d : AF.Dir} (hd : A.dirs[i]? = some d) : ∃ fb, q.fbs[i]? = some fb :=
  ⟨_, List.getElem?_eq_getElem (by rw [hq.2.1]; exact (List.getElem?_eq_some_iff.1 hd).1)⟩
theorem xb_of (hq : fsQ A q) {x : Nat} (hx : x < A.files.length) : ∃ y xb, A.files[x]? = some y ∧ q.xbs[x]? = some xb ∧ q.xbs.getD x 0 = xb :=
  ⟨_, _, List.getElem?_eq_getElem hx, List.getElem?_eq_getElem (by rw [hq.2.2]; exact hx), by rw [List.getD_eq_getElem?_getD, List.getElem?_eq_getElem (by rw [hq.2.2]; exact hx)]; rfl⟩
theorem dirs_ptr (hq : fsQ A q) (k : ByteArray) (v : Value) (hk : lkM q.m k = some v) : ∃ fb, v = ptrV fb := by
  obtain ⟨i, d, fb, _, _, _, h⟩ := (dirs_mem hq).1 (lkM_mem hk)
  exact ⟨fb, h⟩
theorem dirs_lk (W : A.WF) (hq : fsQ A q) (dir : ByteArray) : (A.at dir = none ∧ lkM q.m dir = none) ∨ ∃ (i : Nat) (d : AF.Dir) (fb : Nat), A.at dir = some i ∧ A.dirs[i]? = some d ∧ d.name = dir ∧ q.fbs[i]? = some fb ∧ lkM q.m dir = some (ptrV fb) := by
  cases ha : A.at dir with
  | none =>
    refine .inl ⟨rfl, lkM_none fun p hp e => ?_⟩
    obtain ⟨i, d, fb, h1, _, h2, _⟩ := (dirs_mem hq (k := p.1) (v := p.2)).1 hp
    exact AF.at_none ha d (List.mem_of_getElem? h1) (by rw [← h2, e])
  | some i =>
    obtain ⟨d, hd, hn⟩ := AF.at_some ha
    obtain ⟨fb, hf⟩ := fb_of hq hd
    exact .inr ⟨i, d, fb, rfl, hd, hn, hf, mem_lkM (dirs_nodup W hq) ((dirs_mem hq).2 ⟨i, d, fb, hd, hf, hn.symm, rfl⟩)⟩
/-- A directory as 'find' answers it. -/
theorem found_eq (W : A.WF) (hq : fsQ A q) (dir : ByteArray) (ss : List ByteArray) : (∃ (i : Nat) (d : AF.Dir) (fb : Nat), A.named dir ss = .ok i ∧ A.dirs[i]? = some d ∧ q.fbs[i]? = some fb ∧ foundV q.m dir ss = .tuple #[ptrV fb, .int .i64 0]) ∨
    ∃ e : Nat, A.named dir ss = .error e ∧ (e = 61 ∨ e = 65) ∧ foundV q.m dir ss = .tuple #[.pointer none, .int .i64 (e : Int)] := by
  unfold foundV AF.FS.named
  split
  · rcases dirs_lk W hq dir with ⟨h1, h2⟩ | ⟨i, d, fb, h1, h2, h3, h4, h5⟩
    · rw [h1, h2]; exact .inr ⟨61, rfl, .inl rfl, rfl⟩
    · rw [h1, h5]; exact .inl ⟨i, d, fb, rfl, h2, h4, rfl⟩
  · exact .inr ⟨65, rfl, .inr rfl, rfl⟩
end
/-- A file system's parts, one behind the other. -/
abbrev fs4 (b : Nat) (A : AF.FS) (q : FsQ) (F : List HProp) : List HProp := rawOf b A q.md :: ownM strKeys q.md q.m :: filesP q.xbs A.files :: dirsP q.xbs q.fbs A.dirs :: F
section
variable {b : Nat} {A : AF.FS} {q : FsQ} {F : List HProp} {h : Heap}
theorem ready_spec {dir : ByteArray} {a : Option Addr} {l c : Nat} {ss : List ByteArray} (W : A.WF) (hq : fsQ A q) (H : sat (rawOf b A q.md :: ownM strKeys q.md q.m :: F) h) (hr : RdC h a (ss.map Value.string)) (hl : ss.length = l) (hlb : l < 1000)
    (hd : dir.size < 4611686018427387904) (hss : ∀ s ∈ ss, s.size < 4611686018427387904) :
    CallsH Try.prog 56 [ptrV b, .string dir, .slice a l c] h fun v h' => h' = h ∧ ((∃ (i : Nat) (d : AF.Dir) (fb : Nat), A.ready dir ss = .ok i ∧ A.dirs[i]? = some d ∧ q.fbs[i]? = some fb ∧ v = .tuple #[ptrV fb, .int .i64 0]) ∨
      ∃ e : Nat, A.ready dir ss = .error e ∧ (e = 60 ∨ e = 61 ∨ e = 65) ∧ v = .tuple #[.pointer none, .int .i64 (e : Int)]) := by
  refine (F56_spec H (dirs_ptr hq) hr hl hlb hd hss).mono ?_
  rintro v h1 ⟨rfl, rfl⟩
  refine ⟨rfl, ?_⟩
  unfold readyV AF.FS.ready
  cases A.off with
  | true => exact .inr ⟨60, rfl, .inl rfl, rfl⟩
  | false =>
    rcases found_eq W hq dir ss with ⟨i, d, fb, h1, h2, h3, h4⟩ | ⟨e, h1, h2, h3⟩
    · exact .inl ⟨i, d, fb, h1, h2, h3, h4⟩
    · exact .inr ⟨e, h1, .inr h2, h3⟩
/-- A directory taken out, and put back. -/
def dirR (xbs fbs : List Nat) (ds : List AF.Dir) (i : Nat) : HProp := butP (dirP xbs) ds fbs i
def dirC (nb bb : Nat) (a : Option Addr) (l c : Nat) : Obj := .cells #[.map (some nb), .map (some bb), .slice a l c] 91 (0, 0)
theorem dir_out {xbs fbs : List Nat} {ds : List AF.Dir} {i : Nat} {d : AF.Dir} {fb : Nat} (H : sat (dirsP xbs fbs ds :: F) h) (hd : ds[i]? = some d) (hf : fbs[i]? = some fb) :
    ∃ (nb bb : Nat) (a : Option Addr) (c : Nat), sat (pt fb (dirC nb bb a d.pend.length c) :: namesP xbs nb d.now :: namesP xbs bb d.base :: ownL (opP xbs) 96 a d.pend.length c d.pend :: dirR xbs fbs ds i :: F) h := by
  obtain ⟨r, H2⟩ := sat_exi.1 (many_out H hd hf)
  exact ⟨r.nb, r.bb, r.a, r.c, H2.open⟩
theorem dir_in {xbs fbs : List Nat} {ds : List AF.Dir} {i : Nat} {d d' : AF.Dir} {fb nb bb : Nat} {a : Option Addr} {c : Nat} (hd : ds[i]? = some d') (hf : fbs[i]? = some fb)
    (H : sat (pt fb (dirC nb bb a d.pend.length c) :: namesP xbs nb d.now :: namesP xbs bb d.base :: ownL (opP xbs) 96 a d.pend.length c d.pend :: dirR xbs fbs ds i :: F) h) : sat (dirsP xbs fbs (ds.set i d) :: F) h := by
  refine many_in hf (List.getElem?_eq_some_iff.1 hd).1 (sat_exi.2 ⟨⟨nb, bb, a, c⟩, ?_⟩)
  exact sat.shut (m := [pt fb (dirC nb bb a d.pend.length c), namesP xbs nb d.now, namesP xbs bb d.base, ownL (opP xbs) 96 a d.pend.length c d.pend]) H
theorem modify_set {α : Type} {l : List α} {i : Nat} {x : α} (g : α → α) (hx : l[i]? = some x) : l.modify i g = l.set i (g x) := by
  apply List.ext_getElem?
  intro j
  rw [get_modify, List.getElem?_set]
  have hl := (List.getElem?_eq_some_iff.1 hx).1
  by_cases h : i = j
  · subst h
    rw [hx, if_pos rfl, if_pos hl]
    simp
  · simp [h]
theorem names_open {xbs : List Nat} {mb : Nat} {l : AF.Names} (H : sat (namesP xbs mb l :: F) h) : ∃ m : List (ByteArray × Value), m.Perm (l.map (entV xbs)) ∧ sat (ownM strKeys mb m :: F) h := by
  obtain ⟨m, H2⟩ := sat_exi.1 H
  have H3 := H2.open
  obtain ⟨hp, H4⟩ := sat_pur.1 (H3.mv 1)
  exact ⟨m, hp, H4⟩
theorem names_shut {xbs : List Nat} {mb : Nat} {l : AF.Names} {m : List (ByteArray × Value)} (hp : m.Perm (l.map (entV xbs))) (H : sat (ownM strKeys mb m :: F) h) : sat (namesP xbs mb l :: F) h := by
  refine sat_exi.2 ⟨m, sat.shut (m := [ownM strKeys mb m, pur (m.Perm (l.map (entV xbs)))]) ?_⟩
  have H2 : sat (pur (m.Perm (l.map (entV xbs))) :: ownM strKeys mb m :: F) h := sat_pur.2 ⟨hp, H⟩
  exact H2.mv 1
/-- What is read of a directory. -/
theorem dir_read {xbs fbs : List Nat} {ds : List AF.Dir} {i : Nat} {d : AF.Dir} {fb : Nat} (H : sat (dirsP xbs fbs ds :: F) h) (hd : ds[i]? = some d) (hf : fbs[i]? = some fb) (hu : AF.Up d.now) :
    ∃ (nb bb : Nat) (a : Option Addr) (c : Nat) (es : Array MapEntry), h[fb]? = some (dirC nb bb a d.pend.length c) ∧ mapEs h (some nb) es ∧ es.size = d.now.length ∧
      ∀ n : ByteArray, ∃ f, Instr.findNow .string (.string n) es.toList 0 = some f ∧ f.map (·.2) = (AF.of d.now n).map fun x => ptrV (xbs.getD x 0) := by
  obtain ⟨nb, bb, a, c, H2⟩ := dir_out H hd hf
  obtain ⟨m, hp, H3⟩ := names_open (H2.mv 1)
  obtain ⟨es, clock, hm, hes⟩ := mapEs_ownM H3
  refine ⟨nb, bb, a, c, es, H2.get, hes, ?_, fun n => ?_⟩
  · rw [hm.size, hp.length_eq, List.length_map]
  · obtain ⟨f, hf, hl, _⟩ := hm.find n
    exact ⟨f, hf, by rw [hl, ent_lk hp hu]⟩
end

end Go.Proofs.Yticjjdhaikbdaaa
