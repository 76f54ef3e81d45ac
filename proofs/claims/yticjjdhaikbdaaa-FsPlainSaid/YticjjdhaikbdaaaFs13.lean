/- What is used, counted. -/
import Derived.Test.YticjjdhaikbdaaaFs12
namespace Go.Proofs.Yticjjdhaikbdaaa
open Go Go.RowKit Go.MapKept
set_option linter.unusedVariables false
set_option linter.unusedSimpArgs false

theorem MapIs.pairs {es : Array MapEntry} {clock : Nat} {m : List (ByteArray × Value)} (hm : MapIs strKeys es clock m) : es.toList.map (fun e : MapEntry => (kS e.key, e.val)) = m := by
  have := congrArg (List.map fun p : Value × Value => (kS p.1, p.2)) hm.2
  simpa [List.map_map, Function.comp_def, strKeys, kS] using this
/-- A range over a map of texts. -/
theorem mapLoop {P : Program} {ty : TypeId} {p mb : Nat} {m : List (ByteArray × Value)} {es : Array MapEntry} {clock : Nat} (hm : MapIs strKeys es clock m) {G : List (ByteArray × Value) → List HProp} {End : Heap → Prop} {Body : (Unit → Heap → Prop) → Value → Heap → Prop} {h : Heap}
    (start : sat (pt p (.mapIter (some mb) clock #[] clock) :: pt mb (.map es clock) :: G []) h)
    (fin : ∀ done h', done.Perm m → sat (pt mb (.map es clock) :: G done) h' → End h')
    (body : ∀ (o : Obj) done k v h' (again : Unit → Heap → Prop), (∃ rest, (done ++ (k, v) :: rest).Perm m) → sat (pt p o :: pt mb (.map es clock) :: G done) h' →
      (∀ h'', sat (pt p o :: pt mb (.map es clock) :: G (done ++ [(k, v)])) h'' → again () h'') → Body again (.tuple #[.string k, v]) h') :
    LoopH (fun again (_ : Unit) h3 => RunH P (Instr.next (.pointer (some ⟨p, 0, none⟩)) false ty) h3 fun r2 h4 => (r2 = .tuple #[.bool false] ∧ End h4) ∨
      (∃ k0 x1 : Value, r2 = .tuple #[.bool true, k0, x1] ∧ RunH P (Instr.entry (.pointer (some ⟨p, 0, none⟩))) h4 fun r3 h5 => Body again r3 h5)) () h := by
  have hn := hm.1.2.1
  refine ⟨fun _ h2 => ∃ seen done c0, sat (pt p (.mapIter (some mb) clock seen c0) :: pt mb (.map es clock) :: G (done.map fun e : MapEntry => (kS e.key, e.val))) h2 ∧ Walked es seen done ∧ clock ≤ c0,
    fun _ h2 => leftAt ⟨p, 0, none⟩ h2, ⟨#[], [], clock, start, Walked.start es, Nat.le_refl _⟩, ?_⟩
  rintro _ h2 ⟨seen, done, c0, H2, hw, hc⟩
  have hmb := (H2.mv 1).get
  refine next_sat H2 hmb hm.1.1 hc ?_ ?_
  · intro h0
    refine .inl ⟨rfl, fin (done.map fun e : MapEntry => (kS e.key, e.val)) h2 ?_ H2.drop⟩
    rw [← hm.pairs]
    exact (hw.fin h0).map _
  · intro e he h3 H3
    have hmb3 := (H3.mv 1).get
    have hee := Walked.mem he
    refine .inr ⟨_, _, rfl, ?_⟩
    refine entry_sat H3 hmb3 hee hn ?_
    rw [hm.strKey hee]
    refine body (.mapIter (some mb) clock (seen.push e.born) clock) (done.map fun e : MapEntry => (kS e.key, e.val)) (kS e.key) e.val h3 _ ?_ H3 fun h4 H4 => ⟨⟨seen.push e.born, done ++ [e], clock, ?_, hw.step hn he, Nat.le_refl _⟩, ?_⟩
    · refine ⟨(leftOf es (seen.push e.born)).toList.map fun e : MapEntry => (kS e.key, e.val), ?_⟩
      have hp := (hw.step hn he).perm.map fun e : MapEntry => (kS e.key, e.val)
      rw [hm.pairs] at hp
      simpa using hp
    · rw [List.map_append]
      exact H4
    · have a1 : leftAt ⟨p, 0, none⟩ h4 = (leftOf es (seen.push e.born)).size := by
        unfold leftAt
        simp only [H4.get, (H4.mv 1).get]
      have a2 : leftAt ⟨p, 0, none⟩ h2 = (leftOf es seen).size := by
        unfold leftAt
        simp only [H2.get, hmb]
      show leftAt ⟨p, 0, none⟩ h4 < leftAt ⟨p, 0, none⟩ h2
      rw [a1, a2]
      exact Walked.less hn he

/-! ### sums -/
theorem perm_sum {l m : List Nat} (h : l.Perm m) : l.sum = m.sum := by
  induction h with
  | nil => rfl
  | cons x _ ih => simp [ih]
  | swap x y l => simp; omega
  | trans _ _ h1 h2 => exact h1.trans h2
theorem sum_flatMap {α : Type} (f : α → List Nat) (g : Nat → Nat) : ∀ l : List α, ((l.flatMap f).map g).sum = (l.map fun d => ((f d).map g).sum).sum
  | [] => rfl
  | a :: l => by rw [List.flatMap_cons, List.map_append, List.sum_append, sum_flatMap f g l, List.map_cons, List.sum_cons]
def lenN (A : AF.FS) (l : AF.Names) (k : ByteArray) : Nat := match AF.of l k with
  | some x => (A.X x).b.length
  | none => 0
def sumN (A : AF.FS) (l : AF.Names) : Nat := (l.map fun p => (A.X p.2).b.length).sum
def sumD (A : AF.FS) (k : ByteArray) : Nat := match A.at k with
  | some i => sumN A (A.D i).now
  | none => 0
theorem nodup_inj {α : Type} {l : List α} (hn : l.Nodup) {i j : Nat} {x : α} (h1 : l[i]? = some x) (h2 : l[j]? = some x) : i = j := by
  obtain ⟨hi, e1⟩ := List.getElem?_eq_some_iff.1 h1
  obtain ⟨hj, e2⟩ := List.getElem?_eq_some_iff.1 h2
  have := List.pairwise_iff_getElem.1 hn
  rcases Nat.lt_trichotomy i j with h | h | h
  · exact absurd (e1.trans e2.symm) (this i j hi hj h)
  · exact h
  · exact absurd (e2.trans e1.symm) (this j i hj hi h)
theorem at_of {A : AF.FS} (W : A.WF) {i : Nat} {d : AF.Dir} (hd : A.dirs[i]? = some d) : A.at d.name = some i := by
  cases ha : A.at d.name with
  | none => exact absurd rfl (AF.at_none ha d (List.mem_of_getElem? hd))
  | some j =>
    obtain ⟨e, he, hn⟩ := AF.at_some ha
    have hnd := names_nodup W
    have h1 : (A.dirs.map (·.name))[i]? = some d.name := by rw [List.getElem?_map, hd]; rfl
    have h2 : (A.dirs.map (·.name))[j]? = some d.name := by rw [List.getElem?_map, he, ← hn]; rfl
    rw [nodup_inj hnd h1 h2]
theorem sumD_of {A : AF.FS} (W : A.WF) {i : Nat} {d : AF.Dir} (hd : A.dirs[i]? = some d) : sumD A d.name = sumN A d.now := by
  unfold sumD
  rw [at_of W hd]
  simp only [AF.D_of hd]
theorem used_eq {A : AF.FS} (W : A.WF) : A.used = ((A.dirs.map (·.name)).map (sumD A)).sum := by
  unfold AF.FS.used AF.FS.idx
  rw [sum_flatMap, List.map_map]
  congr 1
  apply List.map_congr_left
  intro d hd
  obtain ⟨i, hi⟩ := List.getElem?_of_mem hd
  show _ = sumD A d.name
  rw [sumD_of W hi, List.map_map]
  rfl
theorem used_m {A : AF.FS} {q : FsQ} (W : A.WF) (hq : fsQ A q) : (q.m.map fun e => sumD A e.1).sum = A.used := by
  rw [used_eq W, ← perm_sum ((dirs_keys hq).map (sumD A)), List.map_map]
  rfl
theorem sumN_keys {A : AF.FS} {l : AF.Names} (hu : AF.Up l) : ((l.map (·.1)).map (lenN A l)).sum = sumN A l := by
  unfold sumN
  rw [List.map_map]
  congr 1
  apply List.map_congr_left
  intro p hp
  show lenN A l p.1 = _
  unfold lenN
  rw [AF.mem_of hu.nodup (f := p.2) hp]
theorem sumN_m {A : AF.FS} {xbs : List Nat} {l : AF.Names} {m : List (ByteArray × Value)} (hu : AF.Up l) (hp : m.Perm (l.map (entV xbs))) : (m.map fun e => lenN A l e.1).sum = sumN A l := by
  rw [← sumN_keys hu, perm_sum (hp.map fun e => lenN A l e.1), List.map_map, List.map_map]
  rfl
section
variable {b : Nat} {A : AF.FS} {q : FsQ} {F : List HProp} {h : Heap}
theorem file_read {xbs : List Nat} {fs : List AF.File} {x : Nat} {y : AF.File} {xb : Nat} (H : sat (filesP xbs fs :: F) h) (hx : fs[x]? = some y) (hb : xbs[x]? = some xb) : ∃ (a : Option Addr) (c : Nat), h[xb]? = some (.cells #[.slice a y.b.length c, .int .i64 (y.safe : Int)] 94 (0, 0)) ∧ RdC h a (y.b.map nv) := by
  obtain ⟨r, H2⟩ := sat_exi.1 (many_out H hx hb)
  have H3 := H2.open
  exact ⟨r.1, r.2, H3.get, ownS_read (H3.mv 1)⟩
theorem F66_spec {room used0 steps fuse : Int} {off : Bool} (W : A.WF) (hq : fsQ A q) (H : sat (rawFS b room used0 steps fuse off q.md :: ownM strKeys q.md q.m :: filesP q.xbs A.files :: dirsP q.xbs q.fbs A.dirs :: F) h) :
    CallsH Try.prog 66 [ptrV b] h fun v h' => v = .tuple #[] ∧ sat (rawFS b room (A.used : Int) steps fuse off q.md :: ownM strKeys q.md q.m :: filesP q.xbs A.files :: dirsP q.xbs q.fbs A.dirs :: F) h' := by
  apply F66_ok
  unfold F66
  simp only [NN'_some', addr_add0]
  have hu := W.used_le
  refine StCC (i := 1) (v := .int .i64 0) (c' := #[.int .i64 room, .int .i64 0, .int .i64 steps, .int .i64 fuse, .bool off, .map (some q.md)]) H (by show 1 < 6; decide) rfl fun h1 H1 => ?_
  refine LdC (v := .map (some q.md)) H1 rfl ?_
  rw [DM_map]
  obtain ⟨es, clock, hm, H2⟩ := ownM_open (H1.mv 1)
  refine range_sat (k := 9) (e := 84) (by kernel_rfl) H2 H2.get fun p h2 H3 => ?_
  rw [DP_pointer]
  refine mapLoop (mb := q.md) hm (G := fun done => rawFS b room (((done.map fun e : ByteArray × Value => sumD A e.1).sum : Nat) : Int) steps fuse off q.md :: filesP q.xbs A.files :: dirsP q.xbs q.fbs A.dirs :: F) ?_ ?_ ?_
  · exact H3
  · intro done h3 hp H4
    refine ⟨trivial, ?_⟩
    have e : (done.map fun e : ByteArray × Value => sumD A e.1).sum = A.used := by rw [perm_sum (hp.map fun e => sumD A e.1), used_m W hq]
    rw [e] at H4
    exact (ownM_shut hm H4).mv 1
  · intro o done k v h3 again ⟨rest, hrest⟩ H4 hagain
    have hmem : (k, v) ∈ q.m := hrest.mem_iff.1 (by simp)
    obtain ⟨i, d, fb, hdi, hfi, rfl, rfl⟩ := (dirs_mem hq).1 hmem
    have w := W.each d (List.mem_of_getElem? hdi)
    have htot : (done.map fun e : ByteArray × Value => sumD A e.1).sum + sumN A d.now ≤ A.used := by
      have := perm_sum (hrest.map fun e : ByteArray × Value => sumD A e.1)
      rw [used_m W hq, List.map_append, List.sum_append, List.map_cons, List.sum_cons, sumD_of W hdi] at this
      omega
    refine ⟨_, some ⟨fb, 0, none⟩, rfl, ?_⟩
    simp only [NN'_some', addr_add0]
    obtain ⟨nb, bb, a, c, H5⟩ := dir_out (H4.mv 4) hdi hfi
    refine LdV (v := .map (some nb)) H5.get rfl ?_
    rw [DM_map]
    obtain ⟨m2, hp2, H6⟩ := names_open (H5.mv 1)
    obtain ⟨es2, clock2, hm2, H7⟩ := ownM_open H6
    refine range_sat (k := 9) (e := 92) u88 H7 H7.get fun p2 h4 H8 => ?_
    rw [DP_pointer]
    refine mapLoop (mb := nb) hm2 (G := fun done2 => rawFS b room (((done.map fun e : ByteArray × Value => sumD A e.1).sum + (done2.map fun e : ByteArray × Value => lenN A d.now e.1).sum : Nat) : Int) steps fuse off q.md :: filesP q.xbs A.files ::
      pt fb (dirC nb bb a d.pend.length c) :: namesP q.xbs bb d.base :: ownL (opP q.xbs) 96 a d.pend.length c d.pend :: dirR q.xbs q.fbs A.dirs i :: pt p o :: pt q.md (.map es clock) :: F) ?_ ?_ ?_
    · exact H8.ordT 10 [0, 1, 8, 9, 2, 3, 4, 5, 6, 7]
    · intro done2 h5 hp3 H9
      have e : (done2.map fun e : ByteArray × Value => lenN A d.now e.1).sum = sumD A d.name := by
        rw [perm_sum (hp3.map fun e => lenN A d.now e.1), sumN_m w.ok.up hp2, sumD_of W hdi]
      rw [e] at H9
      refine hagain h5 ?_
      rw [List.map_append, List.sum_append, List.map_cons, List.map_nil, List.sum_cons, List.sum_nil, Nat.add_zero]
      have H10 := names_shut hp2 (ownM_shut hm2 H9)
      have H11 := dir_in (d := d) hdi hfi (H10.ordT 9 [3, 0, 4, 5, 6, 7, 8, 1, 2])
      rw [set_self hdi] at H11
      exact H11.ordT 5 [1, 2, 3, 4, 0]
    · intro o2 done2 k2 v2 h5 again2 ⟨rest2, hrest2⟩ H9 hagain2
      have hmem2 : (k2, v2) ∈ d.now.map (entV q.xbs) := hp2.mem_iff.1 (hrest2.mem_iff.1 (by simp))
      obtain ⟨pr, hpr, epr⟩ := List.mem_map.1 hmem2
      obtain ⟨k3, x⟩ := pr
      simp only [entV, Prod.mk.injEq] at epr
      obtain ⟨rfl, rfl⟩ := epr
      obtain ⟨y, xb, hy, hxb, hgd⟩ := xb_of hq (w.ok.each _ hpr).1
      have hlen : lenN A d.now k3 = y.b.length := by
        unfold lenN
        rw [AF.mem_of w.ok.up.nodup hpr]
        simp only [AF.X_of hy]
      have htot2 : (done2.map fun e : ByteArray × Value => lenN A d.now e.1).sum + y.b.length ≤ sumN A d.now := by
        have := perm_sum (hrest2.map fun e : ByteArray × Value => lenN A d.now e.1)
        rw [sumN_m w.ok.up hp2, List.map_append, List.sum_append, List.map_cons, List.sum_cons, hlen] at this
        omega
      refine ⟨_, some ⟨xb, 0, none⟩, by rw [hgd]; rfl, ?_⟩
      simp only [NN'_some', addr_add0]
      refine LdC (v := .int .i64 (((done.map fun e : ByteArray × Value => sumD A e.1).sum + (done2.map fun e : ByteArray × Value => lenN A d.now e.1).sum : Nat) : Int)) (H9.mv 2) rfl ?_
      rw [DI_int]
      obtain ⟨ya, yc, hyb, _⟩ := file_read (H9.mv 3) hy hxb
      refine LdV (v := .slice ya y.b.length yc) hyb rfl ?_
      rw [DSl_slice, ← Int.natCast_add, wrap64_nat (by omega)]
      refine StCC (i := 1) (c' := #[.int .i64 room, .int .i64 (((done.map fun e : ByteArray × Value => sumD A e.1).sum + (done2.map fun e : ByteArray × Value => lenN A d.now e.1).sum + y.b.length : Nat) : Int), .int .i64 steps, .int .i64 fuse, .bool off, .map (some q.md)]) (H9.mv 2) (by show 1 < 6; decide) rfl fun h6 H10 => ?_
      refine hagain2 h6 ?_
      rw [List.map_append, List.sum_append, List.map_cons, List.map_nil, List.sum_cons, List.sum_nil, Nat.add_zero, hlen, ← Nat.add_assoc]
      exact H10.ordT 3 [1, 2, 0]
end

end Go.Proofs.Yticjjdhaikbdaaa
