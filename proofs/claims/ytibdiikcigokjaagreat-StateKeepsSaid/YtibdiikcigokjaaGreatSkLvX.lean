/- File systems that are on and have no fuse: what the calls do to the names and contents of a directory. -/
import Derived.Test.YtibdiikcigokjaaGreatSkPlA
namespace Go.Proofs.YtibdiikcigokjaaGreat
open Go
set_option linter.unusedVariables false
set_option linter.unusedSimpArgs false

namespace AF
open Frame (packN firstN)
abbrev Dirc := List (ByteArray × List Nat)
def viewD (fs : List File) (l : Names) : Dirc := l.map fun p => (p.1, (fs.getD p.2 default).b)
def setN (k : ByteArray) (x : List Nat) : Dirc → Dirc
  | [] => [(k, x)]
  | p :: l => if p.1 = k then (k, x) :: l else if ltB k p.1 then (k, x) :: p :: l else p :: setN k x l
def delN (k : ByteArray) (T : Dirc) : Dirc := T.filter fun p => !decide (p.1 = k)
def getN (T : Dirc) (k : ByteArray) : Option (List Nat) := (T.find? fun p => decide (p.1 = k)).map (·.2)
def UpN (T : Dirc) : Prop := T.Pairwise fun p q => ltB p.1 q.1 = true
structure Live (A : FS) : Prop where
  wf : A.WF
  fuse : A.fuse = none
  off : A.off = false
def Has (A : FS) (dir : ByteArray) (T : Dirc) : Prop := ∃ (i : Nat) (d : Dir), A.dirs[i]? = some d ∧ d.name = dir ∧ viewD A.files d.now = T
structure Upd (n k s : Nat) (A A' : FS) (dir : ByteArray) (T' : Dirc) : Prop where
  live : Live A'
  here : Has A' dir T'
  els : ∀ e T, e ≠ dir → Has A e T → Has A' e T
  gone : ∀ e, e ≠ dir → A.at e = none → A'.at e = none
  room : A'.room = A.room
  used : A'.used ≤ A.used + k
  steps : A'.steps ≤ A.steps + s
  few : A'.dirs.length ≤ A.dirs.length + n
theorem Upd.trans {n k s n2 k2 s2 : Nat} {A B C : FS} {dir : ByteArray} {T U : Dirc} (h : Upd n k s A B dir T) (h2 : Upd n2 k2 s2 B C dir U) : Upd (n + n2) (k + k2) (s + s2) A C dir U :=
  ⟨h2.live, h2.here, fun e V he hv => h2.els e V he (h.els e V he hv), fun e he hv => h2.gone e he (h.gone e he hv), by rw [h2.room, h.room],
    by have := h.used; have := h2.used; omega, by have := h.steps; have := h2.steps; omega, by have := h.few; have := h2.few; omega⟩
theorem Upd.weak {n k s n2 k2 s2 : Nat} {A B : FS} {dir : ByteArray} {T : Dirc} (h : Upd n k s A B dir T) (hn : n ≤ n2) (hk : k ≤ k2) (hs : s ≤ s2) : Upd n2 k2 s2 A B dir T :=
  ⟨h.live, h.here, h.els, h.gone, h.room, by have := h.used; omega, by have := h.steps; omega, by have := h.few; omega⟩

/-! ### names and contents -/
theorem getN_view (fs : List File) (k : ByteArray) : ∀ l : Names, getN (viewD fs l) k = (of l k).map fun x => (fs.getD x default).b
  | [] => rfl
  | p :: l => by
    have ih := getN_view fs k l
    unfold getN viewD of at ih ⊢
    simp only [List.map_cons, List.find?_cons]
    by_cases h : p.1 = k
    · simp [h]
    · simpa [h] using ih
theorem viewD_keys (fs : List File) (l : Names) : (viewD fs l).map (·.1) = l.map (·.1) := by unfold viewD; rw [List.map_map]; rfl
theorem viewD_up {fs : List File} {l : Names} (h : Up l) : UpN (viewD fs l) := List.pairwise_map.2 h
theorem viewD_drop (fs : List File) (l : Names) (k : ByteArray) : viewD fs (drop l k) = delN k (viewD fs l) := by
  unfold viewD delN drop
  rw [List.filter_map]
  rfl
theorem viewD_ins (fs : List File) (k : ByteArray) (x : Nat) : ∀ l : Names, viewD fs (ins k x l) = setN k (fs.getD x default).b (viewD fs l)
  | [] => rfl
  | p :: l => by
    have ih := viewD_ins fs k x l
    unfold viewD at ih ⊢
    simp only [ins, List.map_cons, setN]
    by_cases h : p.1 = k
    · simp [h]
    · by_cases h2 : ltB k p.1 = true
      · simp [h, h2]
      · simp only [h, h2, if_false, List.map_cons, ih, Bool.false_eq_true]
theorem viewD_congr {fs gs : List File} {l : Names} (h : ∀ p ∈ l, (gs.getD p.2 default).b = (fs.getD p.2 default).b) : viewD gs l = viewD fs l :=
  List.map_congr_left fun p hp => by rw [h p hp]
theorem getD_modify (fs : List File) (x y : Nat) (g : File → File) : (fs.modify x g).getD y default = if x = y ∧ y < fs.length then g (fs.getD y default) else fs.getD y default := by
  simp only [List.getD_eq_getElem?_getD, get_modify]
  by_cases h : x = y
  · subst h
    cases hx : fs[x]? with
    | none =>
      have : ¬ x < fs.length := by rw [List.getElem?_eq_none_iff] at hx; omega
      simp [this]
    | some z =>
      have : x < fs.length := (List.getElem?_eq_some_iff.1 hx).1
      simp [this]
  · simp [h]
theorem viewD_ne {fs : List File} {l : Names} {x : Nat} {g : File → File} (h : x ∉ l.map (·.2)) : viewD (fs.modify x g) l = viewD fs l :=
  viewD_congr fun p hp => by rw [getD_modify, if_neg fun e => h (by rw [e.1]; exact List.mem_map.2 ⟨p, hp, rfl⟩)]
theorem viewD_b {fs : List File} {l : Names} {x : Nat} {g : File → File} (hg : ∀ y, (g y).b = y.b) : viewD (fs.modify x g) l = viewD fs l :=
  viewD_congr fun p hp => by rw [getD_modify]; split <;> first | rfl | exact hg _
theorem viewD_mod {fs : List File} {x : Nat} {g : File → File} {k : ByteArray} (hx : x < fs.length) : ∀ {l : Names}, Up l → (l.map (·.2)).Nodup → of l k = some x → viewD (fs.modify x g) l = setN k (g (fs.getD x default)).b (viewD fs l)
  | [], _, _, h => by cases h
  | p :: l, hu, hn, h => by
    have hu2 := List.pairwise_cons.1 hu
    simp only [List.map_cons, List.nodup_cons] at hn
    by_cases hk : p.1 = k
    · have hp2 : p.2 = x := by
        unfold of at h
        simpa [hk] using h
      have h1 : viewD (fs.modify x g) l = viewD fs l := viewD_ne (by rw [← hp2]; exact hn.1)
      unfold viewD at h1 ⊢
      simp only [List.map_cons, setN, hk, if_true]
      rw [h1, getD_modify, if_pos ⟨hp2.symm, by rw [hp2]; exact hx⟩, hp2]
    · have h' : of l k = some x := by
        unfold of at h ⊢
        simpa [hk] using h
      have ih := viewD_mod (g := g) hx hu2.2 hn.2 h'
      have hlt : ¬ ltB k p.1 = true := fun h3 => by
        have := hu2.1 _ (of_mem h')
        exact strLt_irrefl _ (strLt_trans h3 this)
      have hpx : ¬ (x = p.2 ∧ p.2 < fs.length) := fun e => hn.1 (by rw [← e.1]; exact List.mem_map.2 ⟨_, of_mem h', rfl⟩)
      unfold viewD at ih ⊢
      simp only [List.map_cons, setN, hk, hlt, if_false]
      rw [ih, getD_modify, if_neg hpx]
      simp

/-! ### directories -/
section
variable {A : FS} {dir : ByteArray} {T : Dirc}
theorem step_live (h : A.fuse = none) (g : FS → FS) : A.step g = (g A.stepOn, 0) := by
  unfold FS.step
  rw [h, if_neg (by simp)]
theorem stepOn_fuse (h : A.fuse = none) : A.stepOn.fuse = none := by unfold FS.stepOn; rw [h]; rfl
theorem Has.ready (L : Live A) {i : Nat} {d : Dir} (hd : A.dirs[i]? = some d) (hn : d.name = dir) {ss : List ByteArray} (hs : ∀ s ∈ ss, right s = true) : A.ready dir ss = .ok i := by
  rw [← hn]
  exact ready_of L.wf L.off hd hs
theorem at_keys {B : FS} (h : B.dirs.map (·.name) = A.dirs.map (·.name)) (n : ByteArray) : B.at n = A.at n := by
  unfold FS.at
  have e : ∀ l : List Dir, l.findIdx? (fun d => decide (d.name = n)) = (l.map (·.name)).findIdx? fun s => decide (s = n) := fun l => by rw [List.findIdx?_map]; rfl
  rw [e, e, h]
theorem names_mod {ds : List Dir} {i : Nat} {g : Dir → Dir} (hg : ∀ d, (g d).name = d.name) : (ds.modify i g).map (·.name) = ds.map (·.name) := by
  apply List.ext_getElem?
  intro j
  rw [List.getElem?_map, List.getElem?_map, get_modify]
  cases ds[j]? with
  | none => rfl
  | some d => by_cases h : i = j <;> simp [h, hg]
theorem apart_ne (W : A.WF) {i j : Nat} {d e : Dir} (hd : A.dirs[i]? = some d) (he : A.dirs[j]? = some e) (hij : j ≠ i) {x : Nat} (hx : x ∈ d.speaks) : x ∉ e.speaks := by
  obtain ⟨h1, e1⟩ := List.getElem?_eq_some_iff.1 hd
  obtain ⟨h2, e2⟩ := List.getElem?_eq_some_iff.1 he
  have P := List.pairwise_iff_getElem.1 W.apart
  rcases Nat.lt_or_gt_of_ne hij with h | h
  · have := P j i h2 h1 h
    rw [e1, e2] at this
    exact fun hxe => this x hxe hx
  · have := P i j h1 h2 h
    rw [e1, e2] at this
    exact this x hx
theorem sum_modify_le {α : Type} (f : α → Nat) (g : α → α) : ∀ (l : List α) (i : Nat), (∀ d, l[i]? = some d → f (g d) ≤ f d) → ((l.modify i g).map f).sum ≤ (l.map f).sum
  | [], i, h => by simp
  | d :: l, 0, h => by
    have := h d rfl
    simp
    omega
  | d :: l, i + 1, h => by
    have := sum_modify_le f g l i fun e he => h e (by simpa using he)
    simp only [List.modify_succ_cons, List.map_cons, List.sum_cons]
    omega
theorem used_dirs (A : FS) : A.used = (A.dirs.map fun d => (d.now.map fun p => (A.X p.2).b.length).sum).sum := by
  unfold FS.used FS.idx
  rw [List.map_flatMap]
  induction A.dirs with
  | nil => rfl
  | cons d ds ih =>
    rw [List.flatMap_cons, List.sum_append, ih, List.map_cons, List.sum_cons, List.map_map]
    rfl
theorem sum_filter_le {α : Type} (f : α → Nat) (p : α → Bool) : ∀ l : List α, ((l.filter p).map f).sum ≤ (l.map f).sum
  | [] => Nat.le_refl _
  | a :: l => by
    have := sum_filter_le f p l
    rw [List.filter_cons]
    split <;> simp <;> omega
theorem sum_perm {α : Type} (f : α → Nat) {l m : List α} (h : l.Perm m) : (l.map f).sum = (m.map f).sum := perm_sum (h.map f)
theorem does_sum (f : Nat → Nat) {l : Names} (hu : Up l) {o : Op} (ho : opFiles o = []) : ((does l o).map fun p => f p.2).sum ≤ (l.map fun p => f p.2).sum := by
  cases o with
  | create a x => cases ho
  | remove a => exact sum_filter_le (fun p : ByteArray × Nat => f p.2) _ l
  | rename a b =>
    cases hf : of l a with
    | none =>
      have e : does l (.rename a b) = drop l a := by simp only [does, hf]
      rw [e]
      exact sum_filter_le (fun p : ByteArray × Nat => f p.2) _ l
    | some x =>
      have e : does l (.rename a b) = ins b x (drop l a) := by simp only [does, hf]
      rw [e]
      rw [sum_perm (fun p : ByteArray × Nat => f p.2) (ins_perm (hu.drop a))]
      have h1 : ((drop (drop l a) b).map fun p => f p.2).sum ≤ ((drop l a).map fun p => f p.2).sum := sum_filter_le (fun p : ByteArray × Nat => f p.2) _ _
      have h2 : ((drop l a).map fun p => f p.2).sum + f x ≤ (l.map fun p => f p.2).sum := by
        have hm := of_mem hf
        clear hf h1 hu e
        induction l with
        | nil => cases hm
        | cons p l ih =>
          unfold drop at ih ⊢
          rw [List.filter_cons]
          rcases List.mem_cons.1 hm with rfl | hm
          · have := sum_filter_le (fun p : ByteArray × Nat => f p.2) (fun p => !decide (p.1 = a)) l
            simp
            omega
          · have := ih hm
            split <;> simp <;> omega
      simp only [List.map_cons, List.sum_cons]
      omega
/-- The parts that every call leaves as they were. -/
theorem Has.kept {B : FS} {i : Nat} (hi : ∀ d, A.dirs[i]? = some d → d.name = dir) (hd : ∀ j, j ≠ i → B.dirs[j]? = A.dirs[j]?) (hf : ∀ j d, j ≠ i → A.dirs[j]? = some d → viewD B.files d.now = viewD A.files d.now) (e : ByteArray) (U : Dirc) (he : e ≠ dir) (H : Has A e U) : Has B e U := by
  obtain ⟨j, d, hj, rfl, rfl⟩ := H
  have hji : j ≠ i := fun h => he (by subst h; exact hi d hj)
  exact ⟨j, d, by rw [hd j hji]; exact hj, rfl, hf j d hji hj⟩
theorem mod_ne {α : Type} (l : List α) (g : α → α) {i j : Nat} (h : j ≠ i) : (l.modify i g)[j]? = l[j]? := by
  rw [get_modify]
  cases l[j]? with
  | none => rfl
  | some d => simp [Ne.symm h]
theorem mod_eq {α : Type} {l : List α} (g : α → α) {i : Nat} {d : α} (h : l[i]? = some d) : (l.modify i g)[i]? = some (g d) := by
  rw [get_modify, h]
  simp
theorem create_ok (L : Live A) (H : Has A dir T) {name : ByteArray} (hr : right name = true) (hn : getN T name = none) (hl : T.length < 4096) :
    (A.create dir name).2 = 0 ∧ Upd 0 0 1 A (A.create dir name).1 dir (setN name [] T) := by
  obtain ⟨i, d, hd, hdn, hv⟩ := H
  have W := L.wf
  have hrd : A.ready dir [name] = .ok i := Has.ready L hd hdn (by simpa using hr)
  have hof : of d.now name = none := by
    rw [← hv, getN_view] at hn
    cases h : of d.now name with
    | none => rfl
    | some x => rw [h] at hn; cases hn
  have hln : d.now.length < 4096 := by rw [← hv] at hl; unfold viewD at hl; rw [List.length_map] at hl; exact hl
  have he : A.create dir name = (FS.did { A.stepOn with files := A.files ++ [⟨[], 0⟩] } i (.create name A.files.length), 0) := by
    unfold FS.create
    rw [hrd]
    simp only [D_of hd, hof]
    rw [if_neg (by simp), if_neg (by omega), step_live L.fuse]
    rfl
  have W' := W.create dir name
  rw [he] at W' ⊢
  have ok := (W.each d (List.mem_of_getElem? hd)).ok
  have old : ∀ x, x < A.files.length → ((A.files ++ [(⟨[], 0⟩ : File)]).getD x default).b = (A.files.getD x default).b := fun x hx => by
    rw [List.getD_eq_getElem?_getD, List.getD_eq_getElem?_getD, List.getElem?_append_left hx]
  refine ⟨rfl, ⟨W', stepOn_fuse L.fuse, L.off⟩, ⟨i, d.did (.create name A.files.length), mod_eq _ hd, hdn, ?_⟩, ?_, ?_, rfl, ?_, Nat.le_refl _, ?_⟩
  · show viewD (A.files ++ [⟨[], 0⟩]) (ins name A.files.length d.now) = _
    rw [viewD_ins, viewD_congr (fs := A.files) (fun p hp => old _ (ok.each p hp).1), hv]
    congr 1
    rw [List.getD_eq_getElem?_getD, List.getElem?_append_right (Nat.le_refl _)]
    simp
  · refine Has.kept (i := i) (fun e he2 => by rw [hd] at he2; cases he2; exact hdn) (fun j hj => mod_ne _ _ hj) fun j e hj he2 => ?_
    exact viewD_congr fun p hp => old _ (((W.each e (List.mem_of_getElem? he2)).ok).each p hp).1
  · intro e hne hat
    rw [at_keys (A := A) (names_mod (g := fun d => d.did (.create name A.files.length)) fun d => rfl)]
    exact hat
  · have h1 := used_newFile W ⟨[], 0⟩
    have h2 : FS.used (FS.did { A.stepOn with files := A.files ++ [⟨[], 0⟩] } i (.create name A.files.length)) ≤ FS.used { A with files := A.files ++ [⟨[], 0⟩] } := by
      rw [used_dirs, used_dirs]
      refine sum_modify_le _ _ _ _ fun e he2 => ?_
      have he3 : A.dirs[i]? = some e := he2
      rw [hd] at he3
      cases he3
      show ((ins name A.files.length d.now).map fun p => (FS.X { A with files := A.files ++ [⟨[], 0⟩] } p.2).b.length).sum ≤ (d.now.map fun p => (FS.X { A with files := A.files ++ [⟨[], 0⟩] } p.2).b.length).sum
      rw [sum_perm (fun p : ByteArray × Nat => (FS.X { A with files := A.files ++ [⟨[], 0⟩] } p.2).b.length) (ins_perm ok.up)]
      have h3 : (FS.X { A with files := A.files ++ [⟨[], 0⟩] } A.files.length).b.length = 0 := by
        unfold FS.X
        rw [List.getD_eq_getElem?_getD, List.getElem?_append_right (Nat.le_refl _)]
        simp
      have h4 := sum_filter_le (fun p : ByteArray × Nat => (FS.X { A with files := A.files ++ [⟨[], 0⟩] } p.2).b.length) (fun p => !decide (p.1 = name)) d.now
      simp only [List.map_cons, List.sum_cons, h3]
      unfold drop
      omega
    exact Nat.le_trans h2 (Nat.le_of_eq h1)
  · show (A.dirs.modify i _).length ≤ _
    rw [List.length_modify]
    exact Nat.le_refl _
theorem has_entry (L : Live A) (H : Has A dir T) {name : ByteArray} {b : List Nat} (hn : getN T name = some b) :
    ∃ (i : Nat) (d : Dir) (x : Nat), A.dirs[i]? = some d ∧ d.name = dir ∧ viewD A.files d.now = T ∧ of d.now name = some x ∧ x < A.files.length ∧ (A.X x).b = b ∧ right name = true ∧ A.entry dir name = .ok (i, x) := by
  obtain ⟨i, d, hd, hdn, hv⟩ := H
  rw [← hv, getN_view] at hn
  cases h : of d.now name with
  | none => rw [h] at hn; cases hn
  | some x =>
    rw [h] at hn
    have ok := (L.wf.each d (List.mem_of_getElem? hd)).ok
    have hm := ok.each _ (of_mem h)
    refine ⟨i, d, x, hd, hdn, hv, h, hm.1, Option.some.inj hn, hm.2, ?_⟩
    unfold FS.entry
    rw [Has.ready L hd hdn (ss := [name]) (by simpa using hm.2)]
    simp only [D_of hd, h]
theorem read_ok (L : Live A) (H : Has A dir T) {name : ByteArray} {b : List Nat} (hn : getN T name = some b) : A.read dir name = .ok b := by
  obtain ⟨i, d, x, _, _, _, _, _, hb, _, he⟩ := has_entry L H hn
  unfold FS.read
  rw [he]
  simp only [hb]
theorem list_ok (L : Live A) (H : Has A dir T) : A.list dir = .ok (T.map (·.1)) := by
  obtain ⟨i, d, hd, hdn, hv⟩ := H
  unfold FS.list
  rw [Has.ready L hd hdn (ss := []) (by simp)]
  simp only [D_of hd, ← hv, viewD_keys]
theorem has_up (L : Live A) (H : Has A dir T) : UpN T := by
  obtain ⟨i, d, hd, hdn, rfl⟩ := H
  exact viewD_up ((L.wf.each d (List.mem_of_getElem? hd)).ok).up
/-- A file set: what is written into one file is seen under its name alone. -/
theorem file_upd (L : Live A) {name : ByteArray} {i x k : Nat} {d : Dir} {g : File → File} {T' : Dirc} (hd : A.dirs[i]? = some d) (hdn : d.name = dir) (hx : of d.now name = some x) (W' : (A.stepOn.setFile x g).WF)
    (hT : viewD (A.files.modify x g) d.now = T') (hu : (A.setFile x g).used ≤ A.used + k) : Upd 0 k 1 A (A.stepOn.setFile x g) dir T' := by
  have W := L.wf
  refine ⟨⟨W', stepOn_fuse L.fuse, L.off⟩, ⟨i, d, hd, hdn, hT⟩, ?_, fun e _ h => h, rfl, hu, Nat.le_refl _, Nat.le_refl _⟩
  refine Has.kept (i := i) (fun e he2 => by rw [hd] at he2; cases he2; exact hdn) (fun j hj => rfl) fun j e hj he2 => ?_
  refine viewD_ne fun hm => ?_
  have h1 : x ∈ d.speaks := now_speaks (W.each d (List.mem_of_getElem? hd)) (List.mem_map.2 ⟨_, of_mem hx, rfl⟩)
  exact apart_ne W hd he2 hj h1 (now_speaks (W.each e (List.mem_of_getElem? he2)) hm)
theorem append_ok (L : Live A) (H : Has A dir T) {name : ByteArray} {b c : List Nat} (hn : getN T name = some b) (h8 : B8 c) (hl : b.length + c.length ≤ 16777216) (hr : A.used + c.length ≤ A.room) :
    (A.append dir name c).2 = 0 ∧ Upd 0 c.length 1 A (A.append dir name c).1 dir (setN name (b ++ c) T) := by
  obtain ⟨i, d, x, hd, hdn, hv, hx, hxl, hb, hrt, he⟩ := has_entry L H hn
  have W := L.wf
  have he2 : A.append dir name c = (A.stepOn.setFile x fun y => { y with b := y.b ++ c }, 0) := by
    unfold FS.append
    rw [he]
    simp only [hb]
    rw [if_neg (by omega), if_neg (by omega), step_live L.fuse]
  have W' := W.append dir name h8
  rw [he2] at W' ⊢
  have ok := (W.each d (List.mem_of_getElem? hd)).ok
  refine ⟨rfl, file_upd L hd hdn hx W' ?_ (Nat.le_of_eq (W.used_append (List.mem_flatMap.2 ⟨d, List.mem_of_getElem? hd, List.mem_map.2 ⟨_, of_mem hx, rfl⟩⟩) c))⟩
  rw [viewD_mod hxl ok.up ok.once hx, hv]
  congr 1
  show (A.X x).b ++ c = _
  rw [hb]
theorem sync_ok (L : Live A) (H : Has A dir T) {name : ByteArray} {b : List Nat} (hn : getN T name = some b) : (A.sync dir name).2 = 0 ∧ Upd 0 0 1 A (A.sync dir name).1 dir T := by
  obtain ⟨i, d, x, hd, hdn, hv, hx, hxl, hb, hrt, he⟩ := has_entry L H hn
  have W := L.wf
  have he2 : A.sync dir name = (A.stepOn.setFile x fun y => { y with safe := y.b.length }, 0) := by
    unfold FS.sync
    rw [he]
    simp only []
    rw [step_live L.fuse]
  have W' := W.sync dir name
  rw [he2] at W' ⊢
  exact ⟨rfl, file_upd L hd hdn hx W' (by rw [viewD_b (g := fun y => { y with safe := y.b.length }) fun y => rfl]; exact hv) (Nat.le_of_eq (used_sync W fun y => rfl))⟩
/-- A change of one directory's names. -/
theorem dir_upd (L : Live A) {i : Nat} {d : Dir} {g : Dir → Dir} {T' : Dirc} (hd : A.dirs[i]? = some d) (hdn : d.name = dir) (hg : ∀ e, (g e).name = e.name) (W' : (A.stepOn.setDir i g).WF)
    (hT : viewD A.files (g d).now = T') (hu : ((g d).now.map fun p => (A.X p.2).b.length).sum ≤ (d.now.map fun p => (A.X p.2).b.length).sum) : Upd 0 0 1 A (A.stepOn.setDir i g) dir T' := by
  refine ⟨⟨W', stepOn_fuse L.fuse, L.off⟩, ⟨i, g d, mod_eq _ hd, by rw [hg]; exact hdn, hT⟩, ?_, ?_, rfl, ?_, Nat.le_refl _, ?_⟩
  · exact Has.kept (i := i) (fun e he2 => by rw [hd] at he2; cases he2; exact hdn) (fun j hj => mod_ne _ _ hj) fun j e hj he2 => rfl
  · intro e hne hat
    rw [at_keys (A := A) (names_mod hg)]
    exact hat
  · rw [used_dirs, used_dirs A]
    refine sum_modify_le _ _ _ _ fun e he2 => ?_
    rw [show A.stepOn.dirs = A.dirs from rfl, hd] at he2
    cases he2
    exact hu
  · show (A.dirs.modify i _).length ≤ _
    rw [List.length_modify]
    exact Nat.le_refl _
theorem syncDir_ok (L : Live A) (H : Has A dir T) : (A.syncDir dir).2 = 0 ∧ Upd 0 0 1 A (A.syncDir dir).1 dir T := by
  obtain ⟨i, d, hd, hdn, hv⟩ := H
  have he2 : A.syncDir dir = (A.stepOn.setDir i fun d => { d with base := d.now, pend := [] }, 0) := by
    unfold FS.syncDir
    rw [Has.ready L hd hdn (ss := []) (by simp)]
    simp only []
    rw [step_live L.fuse]
  have W' := L.wf.syncDir dir
  rw [he2] at W' ⊢
  exact ⟨rfl, dir_upd L hd hdn (fun e => rfl) W' hv (Nat.le_refl _)⟩
theorem rename_ok (L : Live A) (H : Has A dir T) {a b : ByteArray} {x : List Nat} (hn : getN T a = some x) (hr : right b = true) : (A.rename dir a b).2 = 0 ∧ Upd 0 0 1 A (A.rename dir a b).1 dir (setN b x (delN a T)) := by
  obtain ⟨i, d, y, hd, hdn, hv, hy, hyl, hb, hrt, he⟩ := has_entry L H hn
  have he2 : A.rename dir a b = (A.stepOn.did i (.rename a b), 0) := by
    unfold FS.rename
    rw [Has.ready L hd hdn (ss := [a, b]) (by intro s hs; simp at hs; rcases hs with rfl | rfl <;> assumption)]
    simp only [D_of hd, hy]
    rw [if_neg (by simp), step_live L.fuse]
  have W' := L.wf.rename dir a b
  rw [he2] at W' ⊢
  have ok := (L.wf.each d (List.mem_of_getElem? hd)).ok
  refine ⟨rfl, dir_upd L hd hdn (fun e => rfl) W' ?_ (does_sum (fun x => (A.X x).b.length) ok.up (o := .rename a b) rfl)⟩
  have e : does d.now (.rename a b) = ins b y (drop d.now a) := by simp only [does, hy]
  show viewD A.files (does d.now (.rename a b)) = _
  rw [e, viewD_ins, viewD_drop, hv]
  congr 1
theorem remove_ok (L : Live A) (H : Has A dir T) {a : ByteArray} {x : List Nat} (hn : getN T a = some x) : (A.remove dir a).2 = 0 ∧ Upd 0 0 1 A (A.remove dir a).1 dir (delN a T) := by
  obtain ⟨i, d, y, hd, hdn, hv, hy, hyl, hb, hrt, he⟩ := has_entry L H hn
  have he2 : A.remove dir a = (A.stepOn.did i (.remove a), 0) := by
    unfold FS.remove
    rw [he]
    simp only []
    rw [step_live L.fuse]
  have W' := L.wf.remove dir a
  rw [he2] at W' ⊢
  have ok := (L.wf.each d (List.mem_of_getElem? hd)).ok
  refine ⟨rfl, dir_upd L hd hdn (fun e => rfl) W' ?_ (does_sum (fun x => (A.X x).b.length) ok.up (o := .remove a) rfl)⟩
  show viewD A.files (drop d.now a) = _
  rw [viewD_drop, hv]
theorem mkdir_ok (L : Live A) (hr : right dir = true) (ha : A.at dir = none) (hf : A.dirs.length < 64) : (A.mkdir dir).2 = 0 ∧ Upd 1 0 1 A (A.mkdir dir).1 dir [] := by
  have hrd : A.ready dir [] = .error 61 := by
    unfold FS.ready FS.named
    rw [L.off, if_neg (by decide), hr]
    simp [ha]
  have he : A.mkdir dir = ({ A.stepOn with dirs := insDir ⟨dir, [], [], []⟩ A.dirs }, 0) := by
    unfold FS.mkdir
    rw [hrd]
    simp only [if_true]
    rw [if_neg (by omega), step_live L.fuse]
    rfl
  have W' := L.wf.mkdir dir
  rw [he] at W' ⊢
  have hp := insDir_perm ⟨dir, [], [], []⟩ A.dirs
  refine ⟨rfl, ⟨W', stepOn_fuse L.fuse, L.off⟩, ?_, ?_, ?_, rfl, ?_, Nat.le_refl _, ?_⟩
  · obtain ⟨i, hi⟩ := List.mem_iff_getElem?.1 (hp.mem_iff.2 (List.mem_cons_self ..))
    exact ⟨i, _, hi, rfl, rfl⟩
  · rintro e U hne ⟨j, d, hj, rfl, rfl⟩
    obtain ⟨i, hi⟩ := List.mem_iff_getElem?.1 (hp.mem_iff.2 (List.mem_cons_of_mem _ (List.mem_of_getElem? hj)))
    exact ⟨i, d, hi, rfl, rfl⟩
  · intro e hne hat
    unfold FS.at
    rw [List.findIdx?_eq_none_iff]
    intro d hd
    rcases List.mem_cons.1 (hp.mem_iff.1 hd) with rfl | hd
    · simpa using Ne.symm hne
    · simpa using at_none hat d hd
  · rw [used_dirs, used_dirs A]
    show ((insDir ⟨dir, [], [], []⟩ A.dirs).map fun d => (d.now.map fun p => (A.X p.2).b.length).sum).sum ≤ _
    rw [sum_perm _ hp]
    simp
  · show (insDir _ A.dirs).length ≤ _
    rw [hp.length_eq]
    simp
end

end AF
end Go.Proofs.YtibdiikcigokjaaGreat

/- Places in file systems that are on and have no fuse: put, get, ready; names of numbers. -/
namespace Go.Proofs.YtibdiikcigokjaaGreat
open Go Go.RowKit
set_option linter.unusedVariables false
set_option linter.unusedSimpArgs false

namespace AF
open Frame (packN firstN packN_length packN_B8)
section
variable {k j : ByteArray} {x y : List Nat}
theorem getN_cons (p : ByteArray × List Nat) (l : Dirc) (j : ByteArray) : getN (p :: l) j = if p.1 = j then some p.2 else getN l j := by
  unfold getN
  rw [List.find?_cons]
  by_cases h : p.1 = j <;> simp [h]
theorem getN_set_self (k : ByteArray) (x : List Nat) : ∀ T : Dirc, getN (setN k x T) k = some x
  | [] => by simp [setN, getN_cons]
  | p :: l => by
    unfold setN
    split
    · simp [getN_cons]
    · split
      · simp [getN_cons]
      · rename_i h _
        rw [getN_cons, if_neg h, getN_set_self k x l]
theorem getN_set_ne (x : List Nat) (h : k ≠ j) : ∀ T : Dirc, getN (setN k x T) j = getN T j
  | [] => by simp [setN, getN_cons, h]
  | p :: l => by
    unfold setN
    split
    · rename_i e
      rw [getN_cons, getN_cons, if_neg h, if_neg (by rw [e]; exact h)]
    · split
      · rw [getN_cons, if_neg h]
      · rw [getN_cons, getN_cons, getN_set_ne x h l]
theorem getN_none {T : Dirc} : getN T k = none ↔ ∀ p ∈ T, p.1 ≠ k := by
  unfold getN
  simp [List.find?_eq_none]
theorem getN_mem {T : Dirc} (h : getN T k = some x) : (k, x) ∈ T := by
  unfold getN at h
  cases hf : T.find? (fun p => decide (p.1 = k)) with
  | none => rw [hf] at h; cases h
  | some p =>
    rw [hf] at h
    have h1 := List.mem_of_find?_eq_some hf
    have h2 := List.find?_some hf
    simp at h h2
    rw [← h, ← h2]
    exact h1
theorem mem_getN {T : Dirc} (hu : UpN T) (h : (k, x) ∈ T) : getN T k = some x := by
  induction T with
  | nil => cases h
  | cons p T ih =>
    have hu2 := List.pairwise_cons.1 hu
    rw [getN_cons]
    rcases List.mem_cons.1 h with rfl | h
    · rw [if_pos rfl]
    · have : p.1 ≠ k := fun e => strLt_irrefl k (by have := hu2.1 _ h; rw [e] at this; exact this)
      rw [if_neg this, ih hu2.2 h]
theorem getN_del_ne (h : k ≠ j) (T : Dirc) : getN (delN k T) j = getN T j := by
  induction T with
  | nil => rfl
  | cons p T ih =>
    unfold delN at ih ⊢
    rw [List.filter_cons]
    by_cases hk : p.1 = k
    · simp only [hk, decide_true, Bool.not_true, Bool.false_eq_true, if_false]
      rw [ih, getN_cons, if_neg (by rw [hk]; exact h)]
    · simp only [hk, decide_false, Bool.not_false, if_true]
      rw [getN_cons, getN_cons, ih]
theorem delN_none {T : Dirc} (h : getN T k = none) : delN k T = T := by
  rw [getN_none] at h
  exact List.filter_eq_self.2 fun p hp => by simpa using h p hp
theorem del_set (x : List Nat) : ∀ {T : Dirc}, getN T k = none → delN k (setN k x T) = T
  | [], _ => by simp [setN, delN]
  | p :: l, h => by
    rw [getN_cons] at h
    split at h
    · cases h
    · rename_i hk
      unfold setN
      rw [if_neg hk]
      split
      · unfold delN
        rw [List.filter_cons]
        simp only [decide_true, Bool.not_true, Bool.false_eq_true, if_false]
        exact delN_none (by rw [getN_cons, if_neg hk]; exact h)
      · have := del_set x h
        unfold delN at this ⊢
        rw [List.filter_cons]
        simp only [hk, decide_false, Bool.not_false, if_true, this]
theorem set_set (x y : List Nat) : ∀ T : Dirc, setN k y (setN k x T) = setN k y T
  | [] => by simp [setN]
  | p :: l => by
    have ih := set_set x y l
    by_cases h : p.1 = k
    · simp [setN, h]
    · by_cases h2 : ltB k p.1 = true
      · simp [setN, h, h2]
      · simp [setN, h, h2, ih]
theorem mem_setN {p : ByteArray × List Nat} : ∀ {T : Dirc}, p ∈ setN k x T → p = (k, x) ∨ p ∈ T
  | [], h => by simp [setN] at h; exact .inl h
  | q :: l, h => by
    unfold setN at h
    split at h
    · rcases List.mem_cons.1 h with h | h
      · exact .inl h
      · exact .inr (List.mem_cons_of_mem _ h)
    · split at h
      · rcases List.mem_cons.1 h with h | h
        · exact .inl h
        · exact .inr h
      · rcases List.mem_cons.1 h with h | h
        · exact .inr (by rw [h]; exact List.mem_cons_self ..)
        · rcases mem_setN h with h | h
          · exact .inl h
          · exact .inr (List.mem_cons_of_mem _ h)
end

/-! ### names -/
theorem right_tmp {name : ByteArray} (h : right name = true) (hs : name.size ≤ 28) : right (tmpN ++ name) = true := by
  unfold right at h ⊢
  simp only [Bool.and_eq_true, decide_eq_true_eq] at h ⊢
  rw [ByteArray.size_append, ByteArray.data_append, Array.toList_append, List.all_append]
  refine ⟨⟨?_, ?_⟩, ?_⟩
  · have : tmpN.size = 4 := rfl
    omega
  · have : tmpN.size = 4 := rfl
    omega
  · rw [h.2, Bool.and_true]
    decide
theorem isTmp_tmp (name : ByteArray) : isTmp (tmpN ++ name) = true := by
  unfold isTmp
  rw [ByteArray.size_append]
  have h1 : tmpN.size = 4 := rfl
  have h2 : sb (tmpN ++ name) = sb tmpN ++ sb name := by
    unfold sb nb
    rw [ByteArray.data_append, Array.toList_append, List.map_append]
  rw [h2, List.take_append_of_le_length (by decide)]
  have h3 : (sb tmpN).take 4 = sb tmpN := by decide
  rw [h3]
  simp [h1]
theorem seqF_cons {g : FS → FS × Nat} {gs : List (FS → FS × Nat)} {A : FS} (h : (g A).2 = 0) : seqF (g :: gs) A = seqF gs (g A).1 := by
  conv => lhs; unfold seqF
  rw [if_pos h]
section
variable {A : FS} {dir name : ByteArray} {T : Dirc} {x : List Nat}
theorem put_ok (L : Live A) (H : Has A dir T) (hr : right name = true) (hs : name.size ≤ 28) (ht : getN T (tmpN ++ name) = none) (hl : T.length < 4096) (h8 : B8 x) (hx : x.length ≤ 16777208) (hu : A.used + (8 + x.length) ≤ A.room) :
    (A.put dir name x).2 = 0 ∧ Upd 0 (8 + x.length) 5 A (A.put dir name x).1 dir (setN name (packN x) T) := by
  have e : A.put dir name x = seqF (rawSteps dir name (packN x)) A := by
    unfold FS.put FS.raw
    rw [if_neg (by omega), if_neg (by omega), list_ok L H]
    simp only []
    unfold rawAll
    rw [if_neg]
    intro h
    rw [List.any_eq_true] at h
    obtain ⟨s, hs, he⟩ := h
    obtain ⟨p, hp, rfl⟩ := List.mem_map.1 hs
    exact getN_none.1 ht p hp (by simpa using he)
  rw [e]
  unfold rawSteps
  obtain ⟨e1, u1⟩ := create_ok L H (right_tmp hr hs) ht hl
  rw [seqF_cons e1]
  obtain ⟨e2, u2⟩ := append_ok u1.live u1.here (getN_set_self _ _ _) (packN_B8 h8) (by rw [packN_length]; simp; omega) (by have := u1.used; rw [u1.room, packN_length]; omega)
  rw [seqF_cons e2]
  rw [List.nil_append, set_set] at u2
  obtain ⟨e3, u3⟩ := sync_ok u2.live u2.here (getN_set_self _ _ _)
  rw [seqF_cons e3]
  obtain ⟨e4, u4⟩ := rename_ok u3.live u3.here (getN_set_self _ _ _) hr
  rw [seqF_cons e4]
  rw [del_set _ ht] at u4
  obtain ⟨e5, u5⟩ := syncDir_ok u4.live u4.here
  rw [seqF_cons e5]
  refine ⟨rfl, ?_⟩
  have := (((u1.trans u2).trans u3).trans u4).trans u5
  rw [packN_length] at this
  exact this.weak (by omega) (by omega) (by omega)
theorem get_gen {p : List Nat} (h2 : x.length + 8 = p.length) (h3 : firstN p = some x) (hr : A.read dir name = .ok p) : A.get dir name = .ok x := by
  unfold FS.get
  rw [hr]
  simp only [h3]
  rw [if_pos h2]
theorem get_ok (L : Live A) (H : Has A dir T) (hn : getN T name = some (packN x)) (h8 : B8 x) (hx : x.length ≤ 16777208) : A.get dir name = .ok x := by
  have h1 := Frame.firstN_pack h8 hx []
  rw [List.append_nil] at h1
  have h2 : x.length + 8 = (packN x).length := by rw [packN_length, Nat.add_comm]
  exact get_gen h2 h1 (read_ok L H hn)
theorem cleanGo_none (dir : ByteArray) : ∀ (l : List ByteArray) (A : FS) (n : Nat), (∀ s ∈ l, isTmp s = false) → cleanGo dir l A n = (A, .ok n)
  | [], A, n, _ => rfl
  | s :: l, A, n, h => by
    unfold cleanGo
    rw [h s (by simp)]
    simp only [Bool.false_eq_true, if_false]
    exact cleanGo_none dir l A n fun t ht => h t (List.mem_cons_of_mem _ ht)
theorem tidy_ok (L : Live A) (H : Has A dir T) (ht : ∀ p ∈ T, isTmp p.1 = false) : A.tidy dir = (A, .ok (T.map (·.1))) := by
  have hl := list_ok L H
  unfold FS.tidy FS.clean
  rw [hl]
  simp only []
  rw [cleanGo_none dir _ A 0 fun s hs => by obtain ⟨p, hp, rfl⟩ := List.mem_map.1 hs; exact ht p hp]
  simp only [Nat.lt_irrefl, if_false, hl]
theorem prep_new (L : Live A) (hr : right dir = true) (ha : A.at dir = none) (hf : A.dirs.length < 64) : Upd 1 0 1 A (A.prep dir).1 dir [] ∧ (A.prep dir).2 = .ok [] := by
  obtain ⟨e, u⟩ := mkdir_ok L hr ha hf
  have hl : A.list dir = .error 61 := by
    unfold FS.list FS.ready FS.named
    rw [L.off, if_neg (by decide), hr]
    simp [ha]
  have e2 : A.prep dir = ((A.mkdir dir).1, .ok []) := by
    unfold FS.prep
    rw [hl]
    simp only []
    rw [if_pos e, tidy_ok u.live u.here (by simp)]
    rfl
  rw [e2]
  exact ⟨u, rfl⟩
end
theorem live_new {room : Nat} (h : room ≤ 1073741824) : Live ⟨room, 0, none, false, [], []⟩ :=
  ⟨⟨h, List.Pairwise.nil, by simp, List.Pairwise.nil, by simp, by simp, by simp⟩, rfl, rfl⟩

/-! ### names of numbers -/
namespace Fnm
open Hex (digs hexd)
def nm (c : Nat) (n : Nat) : ByteArray := ofN [c, 46] ++ ofN (digs 16 n)
theorem sb_app (a b : ByteArray) : sb (a ++ b) = sb a ++ sb b := by
  unfold sb nb
  rw [ByteArray.data_append, Array.toList_append, List.map_append]
theorem nm_sb {c : Nat} (hc : c < 256) (n : Nat) : sb (nm c n) = c :: 46 :: digs 16 n := by
  unfold nm
  rw [sb_app, sb_ofN (fun x hx => by simp at hx; omega), sb_ofN (Hex.digs_B8 16 n)]
  rfl
theorem nm_size (c n : Nat) : (nm c n).size = 18 := by
  unfold nm
  rw [ByteArray.size_append]
  have : (ofN (digs 16 n)).size = 16 := by
    rw [← sb_length, sb_ofN (Hex.digs_B8 16 n), Hex.digs_length]
  rw [this]
  rfl
theorem hexd_right {x : Nat} (h : x < 16) : (decide (97 ≤ hexd x) && decide (hexd x ≤ 122) || (decide (48 ≤ hexd x) && decide (hexd x ≤ 57)) || decide (hexd x = 46)) = true := by
  have : ∀ x : Fin 16, (decide (97 ≤ hexd x.val) && decide (hexd x.val ≤ 122) || (decide (48 ≤ hexd x.val) && decide (hexd x.val ≤ 57)) || decide (hexd x.val = 46)) = true := by decide
  exact this ⟨x, h⟩
theorem digs_mem : ∀ (k m c : Nat), c ∈ digs k m → ∃ x, x < 16 ∧ c = hexd x
  | 0, m, c, h => by cases h
  | k + 1, m, c, h => by
    rw [digs] at h
    rcases List.mem_cons.1 h with rfl | h
    · exact ⟨_, Nat.mod_lt _ (by decide), rfl⟩
    · exact digs_mem k m c h
theorem nm_right {c : Nat} (h1 : 97 ≤ c) (h2 : c ≤ 122) (n : Nat) : right (nm c n) = true := by
  unfold right
  rw [nm_size]
  have : (nm c n).data.toList.all (fun c => (decide (97 ≤ c.toNat) && decide (c.toNat ≤ 122)) || (decide (48 ≤ c.toNat) && decide (c.toNat ≤ 57)) || decide (c.toNat = 46)) = true := by
    rw [List.all_eq_true]
    intro u hu
    have hm : u.toNat ∈ sb (nm c n) := List.mem_map.2 ⟨u, hu, rfl⟩
    rw [nm_sb (by omega)] at hm
    rcases List.mem_cons.1 hm with h | h
    · rw [h]
      simp [h1, h2]
    · rcases List.mem_cons.1 h with h | h
      · rw [h]; decide
      · obtain ⟨x, hx, hc⟩ := digs_mem 16 n _ h
        rw [hc]
        exact hexd_right hx
  rw [this]
  rfl
theorem nm_tmp {c : Nat} (hc : c < 256) (n : Nat) : isTmp (nm c n) = false := by
  unfold isTmp
  rw [nm_sb hc]
  have : ¬ ((c :: 46 :: digs 16 n).take 4 = sb tmpN) := fun h => by
    have := congrArg (fun l => l[1]?) h
    simp [show sb tmpN = [116, 109, 112, 46] from by decide] at this
  rw [decide_eq_false this, Bool.and_false]
theorem digs_inj {a b : Nat} (ha : a < 18446744073709551616) (hb : b < 18446744073709551616) (h : digs 16 a = digs 16 b) : a = b := by
  have h1 := Hex.digs_lt 16 a b
  have h2 := Hex.digs_lt 16 b a
  rw [h] at h1 h2
  have e1 : ¬ (((digs 16 b).map UInt8.ofNat) < ((digs 16 b).map UInt8.ofNat)) := List.lt_irrefl _
  have p : (16 : Nat) ^ 16 = 18446744073709551616 := by decide
  rw [p, Nat.mod_eq_of_lt ha, Nat.mod_eq_of_lt hb] at h1
  rw [p, Nat.mod_eq_of_lt ha, Nat.mod_eq_of_lt hb] at h2
  have a1 : ¬ a < b := fun hh => e1 (h1.2 hh)
  have a2 : ¬ b < a := fun hh => e1 (h2.2 hh)
  omega
theorem nm_inj {c d a b : Nat} (hc : c < 256) (hd : d < 256) (ha : a < 18446744073709551616) (hb : b < 18446744073709551616) (h : nm c a = nm d b) : c = d ∧ a = b := by
  have := congrArg sb h
  rw [nm_sb hc, nm_sb hd] at this
  simp only [List.cons.injEq, true_and] at this
  exact ⟨this.1, digs_inj ha hb this.2⟩
theorem nm_tmpne (c n : Nat) (name : ByteArray) (hc : c < 256) : tmpN ++ name ≠ nm c n := fun h => by
  have h1 := isTmp_tmp name
  rw [h, nm_tmp hc] at h1
  cases h1
end Fnm
end AF
end Go.Proofs.YtibdiikcigokjaaGreat

/- What a crash may leave of a directory: each of the states since it was last made safe, the files that count being safe. -/
namespace Go.Proofs.YtibdiikcigokjaaGreat
open Go Go.RowKit
set_option linter.unusedVariables false
set_option linter.unusedSimpArgs false

namespace AF
open Frame (packN)
def unT (T : Dirc) : Dirc := T.filter fun p => !isTmp p.1
def stat (d : Dir) (k : Nat) : Names := play d.base (d.pend.take k)
def safeX (fs : List File) (x : Nat) : Prop := (fs.getD x default).safe = (fs.getD x default).b.length
structure DurD (fs : List File) (d : Dir) (P : Dirc → Prop) : Prop where
  safe : ∀ k, k ≤ d.pend.length → ∀ p ∈ stat d k, isTmp p.1 = true ∨ safeX fs p.2
  good : ∀ k, k ≤ d.pend.length → P (unT (viewD fs (stat d k)))
  apart : ∀ p ∈ d.now, isTmp p.1 = true → ∀ k, k ≤ d.pend.length → ∀ q ∈ stat d k, q.2 = p.2 → isTmp q.1 = true
section
variable {fs gs : List File} {d : Dir} {P Q : Dirc → Prop} {n s : Nat}
theorem stat_last (W : d.WF n s) : stat d d.pend.length = d.now := by unfold stat; rw [List.take_length, W.now]
theorem stat_did (W : d.WF n s) (o : Op) {k : Nat} (hk : k ≤ (d.did o).pend.length) : (k ≤ d.pend.length ∧ stat (d.did o) k = stat d k) ∨ (k = d.pend.length + 1 ∧ stat (d.did o) k = does d.now o) := by
  have hl : (d.did o).pend.length = d.pend.length + 1 := by simp [Dir.did]
  rcases Nat.lt_or_ge k (d.pend.length + 1) with h | h
  · refine .inl ⟨by omega, ?_⟩
    unfold stat Dir.did
    simp only
    rw [List.take_append_of_le_length (by omega)]
  · have hk2 : k = d.pend.length + 1 := by omega
    refine .inr ⟨hk2, ?_⟩
    unfold stat
    rw [hk2, ← hl, List.take_length]
    show play d.base (d.pend ++ [o]) = _
    rw [play_snoc, W.now]
theorem stat_ok (W : d.WF n s) (k : Nat) : Ok n (stat d k) := (W.runs.take k).last
theorem DurD.mono (D : DurD fs d P) (h : ∀ T, P T → Q T) : DurD fs d Q := ⟨D.safe, fun k hk => h _ (D.good k hk), D.apart⟩
theorem unT_congr {l : Names} (h : ∀ p ∈ l, isTmp p.1 = false → (gs.getD p.2 default).b = (fs.getD p.2 default).b) : unT (viewD gs l) = unT (viewD fs l) := by
  unfold unT viewD
  rw [List.filter_map, List.filter_map]
  refine List.map_congr_left fun p hp => ?_
  have := List.mem_filter.1 hp
  rw [h p this.1 (by simpa using this.2)]
/-- Files are changed that count for nothing, or files come. -/
theorem DurD.files (D : DurD fs d P) (h : ∀ k, k ≤ d.pend.length → ∀ p ∈ stat d k, isTmp p.1 = true ∨ gs.getD p.2 default = fs.getD p.2 default) : DurD gs d P := by
  refine ⟨fun k hk p hp => ?_, fun k hk => ?_, D.apart⟩
  · rcases h k hk p hp with h1 | h1
    · exact .inl h1
    · rcases D.safe k hk p hp with h2 | h2
      · exact .inl h2
      · refine .inr ?_
        unfold safeX at h2 ⊢
        rw [h1, h2]
  · rw [unT_congr (fs := fs) fun p hp ht => ?_]
    · exact D.good k hk
    · rcases h k hk p hp with h1 | h1
      · rw [ht] at h1; cases h1
      · rw [h1]
/-- The names change once more. -/
theorem DurD.did (W : d.WF n s) (D : DurD fs d P) {o : Op} (hok : Ok n (does d.now o)) (hs : ∀ p ∈ does d.now o, isTmp p.1 = true ∨ safeX fs p.2) (hg : P (unT (viewD fs (does d.now o))))
    (ha : ∀ p ∈ does d.now o, isTmp p.1 = true → ∀ k, k ≤ d.pend.length → ∀ q ∈ stat d k, q.2 = p.2 → isTmp q.1 = true) : DurD fs (d.did o) P := by
  refine ⟨fun k hk p hp => ?_, fun k hk => ?_, fun p hp ht k hk q hq e => ?_⟩
  · rcases stat_did W o hk with ⟨h1, h2⟩ | ⟨_, h2⟩
    · rw [h2] at hp; exact D.safe k h1 p hp
    · rw [h2] at hp; exact hs p hp
  · rcases stat_did W o hk with ⟨h1, h2⟩ | ⟨_, h2⟩
    · rw [h2]; exact D.good k h1
    · rw [h2]; exact hg
  · rcases stat_did W o hk with ⟨h1, h2⟩ | ⟨_, h2⟩
    · rw [h2] at hq; exact ha p hp ht k h1 q hq e
    · rw [h2] at hq
      have : q = p := by
        have hn := List.pairwise_map.1 hok.once
        by_cases hqp : q = p
        · exact hqp
        · have h1 : (does d.now o).Pairwise fun a b => a ≠ b → a.2 ≠ b.2 := by
            refine List.Pairwise.imp ?_ hn
            intro a b h _
            exact h
          have h3 : (does d.now o).Pairwise fun a b => b ≠ a → b.2 ≠ a.2 := hn.imp fun h _ e => h e.symm
          exact absurd e (List.Pairwise.forall_of_forall_of_flip (R := fun a b : ByteArray × Nat => a ≠ b → a.2 ≠ b.2) (fun x _ h => absurd rfl h) h1 h3 hq hp hqp)
      rw [this]; exact ht
theorem DurD.create (W : d.WF n s) (hn : n = fs.length) (D : DurD fs d P) {t : ByteArray} (ht : isTmp t = true) (hof : of d.now t = none) (hok : Ok (n + 1) (does d.now (.create t n))) : DurD (fs ++ [⟨[], 0⟩]) (d.did (.create t n)) P := by
  have W1 : d.WF (n + 1) s := ⟨W.name, W.now, W.runs.grow (Nat.le_succ _), W.pend⟩
  have old : ∀ k, ∀ p ∈ stat d k, p.2 < n := fun k p hp => ((stat_ok W k).each p hp).1
  have D1 : DurD (fs ++ [⟨[], 0⟩]) d P := D.files fun k hk p hp => .inr (by
    have := old k p hp
    rw [List.getD_eq_getElem?_getD, List.getD_eq_getElem?_getD, List.getElem?_append_left (by omega)])
  have now : ∀ p ∈ d.now, p ∈ stat d d.pend.length := fun p hp => by rw [stat_last W]; exact hp
  have mem : ∀ p ∈ does d.now (.create t n), p = (t, n) ∨ p ∈ d.now := fun p hp => by
    have := ((ins_perm (n := t) (f := n) W.ok.up).mem_iff).1 hp
    rcases List.mem_cons.1 this with h | h
    · exact .inl h
    · exact .inr (mem_filt h)
  refine D1.did W1 hok (fun p hp => ?_) ?_ fun p hp hpt k hk q hq e => ?_
  · rcases mem p hp with rfl | h
    · exact .inl ht
    · exact D1.safe _ (Nat.le_refl _) p (now p h)
  · have h1 := D1.good _ (Nat.le_refl _)
    rw [stat_last W] at h1
    have e : unT (viewD (fs ++ [⟨[], 0⟩]) (does d.now (.create t n))) = unT (viewD (fs ++ [⟨[], 0⟩]) d.now) := by
      show unT (viewD _ (ins t n d.now)) = _
      rw [viewD_ins]
      have hno : getN (viewD (fs ++ [⟨[], 0⟩]) d.now) t = none := by rw [getN_view, hof]; rfl
      generalize viewD (fs ++ [⟨[], 0⟩]) d.now = V at hno
      generalize ((fs ++ [(⟨[], 0⟩ : File)]).getD n default).b = y
      unfold unT
      induction V with
      | nil => simp [setN, ht]
      | cons p V ih =>
        rw [getN_cons] at hno
        split at hno
        · cases hno
        · rename_i hne
          unfold setN
          rw [if_neg hne]
          split
          · rw [List.filter_cons, ht]; rfl
          · rw [List.filter_cons, List.filter_cons (x := p), ih hno]
    rw [e]
    exact h1
  · rcases mem p hp with rfl | h
    · have := old k q hq
      simp only at e
      omega
    · exact D1.apart p h hpt k hk q hq e
theorem setN_front {b : ByteArray} {y : List Nat} : ∀ {V : Dirc}, (∀ q ∈ V, ltB b q.1 = true) → setN b y V = (b, y) :: V
  | [], _ => rfl
  | p :: V, h => by
    have h1 := h p (List.mem_cons_self ..)
    unfold setN
    rw [if_neg (fun e => by rw [e] at h1; exact strLt_irrefl _ h1), if_pos h1]
theorem setN_cons (b : ByteArray) (y : List Nat) (p : ByteArray × List Nat) (U : Dirc) : setN b y (p :: U) = if p.1 = b then (b, y) :: U else if ltB b p.1 then (b, y) :: p :: U else p :: setN b y U := rfl
theorem unT_cons (p : ByteArray × List Nat) (U : Dirc) : unT (p :: U) = if isTmp p.1 = true then unT U else p :: unT U := by
  unfold unT
  rw [List.filter_cons]
  cases isTmp p.1 <;> rfl
theorem unT_set {b : ByteArray} {y : List Nat} (hb : isTmp b = false) : ∀ {U : Dirc}, UpN U → unT (setN b y U) = setN b y (unT U)
  | [], _ => by
    show unT [(b, y)] = [(b, y)]
    rw [unT_cons, if_neg (by simp [hb])]
    rfl
  | p :: U, hu => by
    have hu2 := List.pairwise_cons.1 hu
    have ih := unT_set (y := y) hb hu2.2
    rw [setN_cons]
    by_cases h1 : p.1 = b
    · rw [if_pos h1, unT_cons, if_neg (by simp [hb]), unT_cons, h1, if_neg (by simp [hb]), setN_cons, if_pos h1]
    · rw [if_neg h1]
      by_cases h2 : ltB b p.1 = true
      · rw [if_pos h2, unT_cons, if_neg (by simp [hb]), setN_front fun q hq => ?_]
        rcases List.mem_cons.1 (mem_filt hq) with rfl | h
        · exact h2
        · exact strLt_trans h2 (hu2.1 q h)
      · rw [if_neg h2, unT_cons, unT_cons]
        by_cases h3 : isTmp p.1 = true
        · rw [if_pos h3, if_pos h3]
          exact ih
        · rw [if_neg h3, if_neg h3, setN_cons, if_neg h1, if_neg h2, ih]
theorem DurD.rename (W : d.WF n s) (D : DurD fs d P) {t b : ByteArray} {x : Nat} (ht : isTmp t = true) (hb : isTmp b = false) (hof : of d.now t = some x) (hsf : safeX fs x) (hok : Ok n (does d.now (.rename t b)))
    (hg : P (setN b (fs.getD x default).b (unT (viewD fs d.now)))) : DurD fs (d.did (.rename t b)) P := by
  have now : ∀ p ∈ d.now, p ∈ stat d d.pend.length := fun p hp => by rw [stat_last W]; exact hp
  have hd : does d.now (.rename t b) = ins b x (drop d.now t) := by simp only [does, hof]
  have hup : Up (drop d.now t) := List.Pairwise.filter _ W.ok.up
  have mem : ∀ p ∈ does d.now (.rename t b), p = (b, x) ∨ (p ∈ d.now ∧ p.1 ≠ b ∧ p.1 ≠ t) := fun p hp => by
    rw [hd] at hp
    have := ((ins_perm (n := b) (f := x) hup).mem_iff).1 hp
    rcases List.mem_cons.1 this with h | h
    · exact .inl h
    · have h1 := List.mem_filter.1 h
      have h2 := List.mem_filter.1 h1.1
      exact .inr ⟨h2.1, by simpa using h1.2, by simpa using h2.2⟩
  refine D.did W hok (fun p hp => ?_) ?_ fun p hp hpt k hk q hq e => ?_
  · rcases mem p hp with rfl | ⟨h, _⟩
    · exact .inr hsf
    · exact D.safe _ (Nat.le_refl _) p (now p h)
  · have e : unT (viewD fs (does d.now (.rename t b))) = setN b (fs.getD x default).b (unT (viewD fs d.now)) := by
      rw [hd, viewD_ins, viewD_drop]
      have hV : UpN (viewD fs d.now) := viewD_up W.ok.up
      generalize viewD fs d.now = V at hV
      have e2 : unT (delN t V) = unT V := by
        unfold unT delN
        rw [List.filter_filter]
        refine List.filter_congr fun p _ => ?_
        by_cases h : p.1 = t
        · rw [h, ht]; simp
        · simp [h]
      rw [unT_set hb (show UpN (delN t V) from List.Pairwise.filter _ hV), e2]
    rw [e]
    exact hg
  · rcases mem p hp with rfl | ⟨h, _⟩
    · rw [hb] at hpt; cases hpt
    · exact D.apart p h hpt k hk q hq e
theorem DurD.remove (W : d.WF n s) (D : DurD fs d P) {a : ByteArray} (hok : Ok n (does d.now (.remove a))) (hg : P (unT (viewD fs (drop d.now a)))) : DurD fs (d.did (.remove a)) P := by
  have now : ∀ p ∈ d.now, p ∈ stat d d.pend.length := fun p hp => by rw [stat_last W]; exact hp
  have mem : ∀ p ∈ does d.now (.remove a), p ∈ d.now := fun p hp => mem_filt hp
  refine D.did W hok (fun p hp => D.safe _ (Nat.le_refl _) p (now p (mem p hp))) hg fun p hp hpt k hk q hq e => D.apart p (mem p hp) hpt k hk q hq e
theorem DurD.sync (W : d.WF n s) (D : DurD fs d P) (hg : P (unT (viewD fs d.now))) : DurD fs { d with base := d.now, pend := [] } P := by
  have hk0 : ∀ k, stat { d with base := d.now, pend := [] } k = d.now := fun k => by unfold stat; simp [play]
  refine ⟨fun k hk p hp => ?_, fun k hk => by rw [hk0]; exact hg, fun p hp ht k hk q hq e => ?_⟩
  · rw [hk0] at hp
    exact D.safe _ (Nat.le_refl _) p (by rw [stat_last W]; exact hp)
  · rw [hk0] at hq
    exact D.apart p hp ht _ (Nat.le_refl _) q (by rw [stat_last W]; exact hq) e
end
end AF
end Go.Proofs.YtibdiikcigokjaaGreat

/- Calls with a fuse: done as without one, or not at all; what a crash may leave stays right with each of them. -/
namespace Go.Proofs.YtibdiikcigokjaaGreat
open Go Go.RowKit
set_option linter.unusedVariables false
set_option linter.unusedSimpArgs false

namespace AF
open Frame (packN packN_length packN_B8)
def Dur (A : FS) (dir : ByteArray) (P : Dirc → Prop) : Prop := ∃ (i : Nat) (d : Dir), A.dirs[i]? = some d ∧ d.name = dir ∧ DurD A.files d P
def SafeAt (A : FS) (dir t : ByteArray) : Prop := ∃ (i : Nat) (d : Dir) (x : Nat), A.dirs[i]? = some d ∧ d.name = dir ∧ of d.now t = some x ∧ safeX A.files x
def er (A : FS) : FS := { A with fuse := none }
section
variable {A : FS} {dir t b : ByteArray} {T : Dirc} {P Q : Dirc → Prop}
theorem Dur.mono (D : Dur A dir P) (h : ∀ T, P T → Q T) : Dur A dir Q := let ⟨i, d, h1, h2, h3⟩ := D; ⟨i, d, h1, h2, h3.mono h⟩
theorem dir_uniq (W : A.WF) {i j : Nat} {d e : Dir} (h1 : A.dirs[i]? = some d) (h2 : A.dirs[j]? = some e) (hn : d.name = e.name) : i = j ∧ d = e := by
  have a1 := W.at_of h1
  have a2 := W.at_of h2
  rw [hn, a2] at a1
  cases a1
  rw [h1] at h2
  cases h2
  exact ⟨rfl, rfl⟩
theorem Dur.both (L : Live A) (H : Has A dir T) (D : Dur A dir P) : ∃ (i : Nat) (d : Dir), A.dirs[i]? = some d ∧ d.name = dir ∧ viewD A.files d.now = T ∧ DurD A.files d P := by
  obtain ⟨i, d, h1, h2, h3⟩ := H
  obtain ⟨j, e, g1, g2, g3⟩ := D
  obtain ⟨rfl, rfl⟩ := dir_uniq L.wf h1 g1 (by rw [h2, g2])
  exact ⟨i, d, h1, h2, h3, g3⟩
theorem dur_create (L : Live A) (H : Has A dir T) (D : Dur A dir P) (htm : isTmp t = true) (hr : right t = true) (hn : getN T t = none) (hl : T.length < 4096) : Dur (A.create dir t).1 dir P := by
  obtain ⟨i, d, hd, hdn, hv, D⟩ := D.both L H
  have W := L.wf
  have hrd : A.ready dir [t] = .ok i := Has.ready L hd hdn (by simpa using hr)
  have hof : of d.now t = none := by
    rw [← hv, getN_view] at hn
    cases h : of d.now t with
    | none => rfl
    | some x => rw [h] at hn; cases hn
  have hln : d.now.length < 4096 := by rw [← hv] at hl; unfold viewD at hl; rw [List.length_map] at hl; exact hl
  have he : A.create dir t = (FS.did { A.stepOn with files := A.files ++ [⟨[], 0⟩] } i (.create t A.files.length), 0) := by
    unfold FS.create
    rw [hrd]
    simp only [D_of hd, hof]
    rw [if_neg (by simp), if_neg (by omega), step_live L.fuse]
    rfl
  have W' := W.create dir t
  rw [he] at W' ⊢
  have hd' : (FS.did { A.stepOn with files := A.files ++ [⟨[], 0⟩] } i (.create t A.files.length)).dirs[i]? = some (d.did (.create t A.files.length)) := mod_eq _ hd
  have ok' := (W'.each _ (List.mem_of_getElem? hd')).ok
  refine ⟨i, _, hd', hdn, D.create (W.each d (List.mem_of_getElem? hd)) rfl htm hof ?_⟩
  have : (FS.did { A.stepOn with files := A.files ++ [⟨[], 0⟩] } i (.create t A.files.length)).files.length = A.files.length + 1 := by
    show (A.files ++ [_]).length = _
    simp
  rw [this] at ok'
  exact ok'
theorem dur_file (L : Live A) {i x : Nat} {d : Dir} {g : File → File} (hd : A.dirs[i]? = some d) (hdn : d.name = dir) (hx : of d.now t = some x) (htm : isTmp t = true) (D : DurD A.files d P) : Dur (A.stepOn.setFile x g) dir P := by
  refine ⟨i, d, hd, hdn, D.files fun k hk p hp => ?_⟩
  by_cases e : p.2 = x
  · exact .inl (D.apart _ (of_mem hx) htm k hk p hp e)
  · refine .inr ?_
    show (A.files.modify x g).getD p.2 default = _
    rw [getD_modify, if_neg (fun h => e h.1.symm)]
theorem dur_append (L : Live A) (H : Has A dir T) (D : Dur A dir P) (htm : isTmp t = true) {y c : List Nat} (hn : getN T t = some y) (hl : y.length + c.length ≤ 16777216) (hr : A.used + c.length ≤ A.room) : Dur (A.append dir t c).1 dir P := by
  obtain ⟨i, d, x, hd, hdn, hv, hx, hxl, hb, hrt, he⟩ := has_entry L H hn
  obtain ⟨j, e, g1, g2, g3⟩ := D
  obtain ⟨rfl, rfl⟩ := dir_uniq L.wf hd g1 (by rw [hdn, g2])
  have he2 : A.append dir t c = (A.stepOn.setFile x fun y => { y with b := y.b ++ c }, 0) := by
    unfold FS.append
    rw [he]
    simp only [hb]
    rw [if_neg (by omega), if_neg (by omega), step_live L.fuse]
  rw [he2]
  exact dur_file L hd hdn hx htm g3
theorem dur_sync (L : Live A) (H : Has A dir T) (D : Dur A dir P) (htm : isTmp t = true) {y : List Nat} (hn : getN T t = some y) : Dur (A.sync dir t).1 dir P ∧ SafeAt (A.sync dir t).1 dir t := by
  obtain ⟨i, d, x, hd, hdn, hv, hx, hxl, hb, hrt, he⟩ := has_entry L H hn
  obtain ⟨j, e, g1, g2, g3⟩ := D
  obtain ⟨rfl, rfl⟩ := dir_uniq L.wf hd g1 (by rw [hdn, g2])
  have he2 : A.sync dir t = (A.stepOn.setFile x fun y => { y with safe := y.b.length }, 0) := by
    unfold FS.sync
    rw [he]
    simp only []
    rw [step_live L.fuse]
  rw [he2]
  refine ⟨dur_file L hd hdn hx htm g3, i, d, x, hd, hdn, hx, ?_⟩
  unfold safeX
  show ((A.files.modify x _).getD x default).safe = ((A.files.modify x _).getD x default).b.length
  rw [getD_modify, if_pos ⟨rfl, hxl⟩]
theorem dur_rename (L : Live A) (H : Has A dir T) (D : Dur A dir P) (htm : isTmp t = true) (hbt : isTmp b = false) {y : List Nat} (hn : getN T t = some y) (hr : right b = true) (hs : SafeAt A dir t) (hP : P (setN b y (unT T))) : Dur (A.rename dir t b).1 dir P := by
  obtain ⟨i, d, x, hd, hdn, hv, hx, hxl, hb, hrt, he⟩ := has_entry L H hn
  obtain ⟨j, e, g1, g2, g3⟩ := D
  obtain ⟨rfl, rfl⟩ := dir_uniq L.wf hd g1 (by rw [hdn, g2])
  obtain ⟨j, e, x2, g1, g2, g4, g5⟩ := hs
  obtain ⟨rfl, rfl⟩ := dir_uniq L.wf hd g1 (by rw [hdn, g2])
  rw [hx] at g4
  cases g4
  have he2 : A.rename dir t b = (A.stepOn.did i (.rename t b), 0) := by
    unfold FS.rename
    rw [Has.ready L hd hdn (ss := [t, b]) (by intro s hs; simp at hs; rcases hs with rfl | rfl <;> assumption)]
    simp only [D_of hd, hx]
    rw [if_neg (by simp), step_live L.fuse]
  have W' := L.wf.rename dir t b
  rw [he2] at W' ⊢
  have hd' : (A.stepOn.did i (.rename t b)).dirs[i]? = some (d.did (.rename t b)) := mod_eq _ hd
  have ok' := (W'.each _ (List.mem_of_getElem? hd')).ok
  refine ⟨i, _, hd', hdn, g3.rename (L.wf.each d (List.mem_of_getElem? hd)) htm hbt hx g5 ok' ?_⟩
  rw [hv]
  have : (A.files.getD x default).b = y := hb
  rw [this]
  exact hP
theorem dur_remove (L : Live A) (H : Has A dir T) (D : Dur A dir P) {y : List Nat} (hn : getN T b = some y) (hP : P (unT (delN b T))) : Dur (A.remove dir b).1 dir P := by
  obtain ⟨i, d, x, hd, hdn, hv, hx, hxl, hb, hrt, he⟩ := has_entry L H hn
  obtain ⟨j, e, g1, g2, g3⟩ := D
  obtain ⟨rfl, rfl⟩ := dir_uniq L.wf hd g1 (by rw [hdn, g2])
  have he2 : A.remove dir b = (A.stepOn.did i (.remove b), 0) := by
    unfold FS.remove
    rw [he]
    simp only []
    rw [step_live L.fuse]
  have W' := L.wf.remove dir b
  rw [he2] at W' ⊢
  have hd' : (A.stepOn.did i (.remove b)).dirs[i]? = some (d.did (.remove b)) := mod_eq _ hd
  have ok' := (W'.each _ (List.mem_of_getElem? hd')).ok
  refine ⟨i, _, hd', hdn, g3.remove (L.wf.each d (List.mem_of_getElem? hd)) ok' ?_⟩
  show P (unT (viewD A.files (drop d.now b)))
  rw [viewD_drop, hv]
  exact hP
theorem dur_syncDir (L : Live A) (H : Has A dir T) (D : Dur A dir P) (hQ : Q (unT T)) : Dur (A.syncDir dir).1 dir Q := by
  obtain ⟨i, d, hd, hdn, hv, D⟩ := D.both L H
  have he2 : A.syncDir dir = (A.stepOn.setDir i fun d => { d with base := d.now, pend := [] }, 0) := by
    unfold FS.syncDir
    rw [Has.ready L hd hdn (ss := []) (by simp)]
    simp only []
    rw [step_live L.fuse]
  rw [he2]
  have hd' : (A.stepOn.setDir i fun d => { d with base := d.now, pend := [] }).dirs[i]? = some { d with base := d.now, pend := [] } := mod_eq (fun d : Dir => { d with base := d.now, pend := [] }) hd
  have W := L.wf.each d (List.mem_of_getElem? hd)
  have D2 : DurD A.files d (fun _ => True) := D.mono fun _ _ => trivial
  have D3 := D2.sync W trivial
  refine ⟨i, _, hd', hdn, D3.safe, fun k hk => ?_, D3.apart⟩
  have : stat { d with base := d.now, pend := [] } k = d.now := by unfold stat; simp [play]
  rw [this, show (A.stepOn.setDir i fun d => { d with base := d.now, pend := [] }).files = A.files from rfl, hv]
  exact hQ

/-! ### fuses -/
theorem step_fz {g : FS → FS} (hg : ∀ B, er (g B) = g (er B)) : A.step g = ({ A with off := true }, 60) ∨ (er (A.step g).1 = ((er A).step g).1 ∧ (A.step g).2 = ((er A).step g).2) := by
  unfold FS.step
  by_cases h : A.fuse = some 0
  · rw [if_pos h]; exact .inl rfl
  · rw [if_neg h, if_neg (by show ¬ (none : Option Nat) = some 0; simp)]
    refine .inr ⟨?_, rfl⟩
    show er (g A.stepOn) = g (er A).stepOn
    rw [hg]
    rfl
def Fz (f : FS → FS × Nat) : Prop := ∀ A, f A = ({ A with off := true }, 60) ∨ (er (f A).1 = (f (er A)).1 ∧ (f A).2 = (f (er A)).2)
theorem fz_create (dir t : ByteArray) : Fz fun A => A.create dir t := by
  intro A
  show A.create dir t = _ ∨ (er (A.create dir t).1 = ((er A).create dir t).1 ∧ (A.create dir t).2 = ((er A).create dir t).2)
  unfold FS.create
  rw [show (er A).ready dir [t] = A.ready dir [t] from rfl]
  cases A.ready dir [t] with
  | error e => exact .inr ⟨rfl, rfl⟩
  | ok i =>
    simp only []
    rw [show (er A).D i = A.D i from rfl]
    split
    · exact .inr ⟨rfl, rfl⟩
    · split
      · exact .inr ⟨rfl, rfl⟩
      · exact step_fz fun B => rfl
theorem fz_append (dir t : ByteArray) (c : List Nat) : Fz fun A => A.append dir t c := by
  intro A
  show A.append dir t c = _ ∨ (er (A.append dir t c).1 = ((er A).append dir t c).1 ∧ (A.append dir t c).2 = ((er A).append dir t c).2)
  unfold FS.append
  rw [show (er A).entry dir t = A.entry dir t from rfl]
  cases A.entry dir t with
  | error e => exact .inr ⟨rfl, rfl⟩
  | ok q =>
    simp only []
    rw [show (er A).X q.2 = A.X q.2 from rfl, show (er A).used = A.used from rfl, show (er A).room = A.room from rfl]
    split
    · exact .inr ⟨rfl, rfl⟩
    · split
      · exact .inr ⟨rfl, rfl⟩
      · exact step_fz fun B => rfl
theorem fz_sync (dir t : ByteArray) : Fz fun A => A.sync dir t := by
  intro A
  show A.sync dir t = _ ∨ (er (A.sync dir t).1 = ((er A).sync dir t).1 ∧ (A.sync dir t).2 = ((er A).sync dir t).2)
  unfold FS.sync
  rw [show (er A).entry dir t = A.entry dir t from rfl]
  cases A.entry dir t with
  | error e => exact .inr ⟨rfl, rfl⟩
  | ok q => exact step_fz fun B => rfl
theorem fz_syncDir (dir : ByteArray) : Fz fun A => A.syncDir dir := by
  intro A
  show A.syncDir dir = _ ∨ (er (A.syncDir dir).1 = ((er A).syncDir dir).1 ∧ (A.syncDir dir).2 = ((er A).syncDir dir).2)
  unfold FS.syncDir
  rw [show (er A).ready dir [] = A.ready dir [] from rfl]
  cases A.ready dir [] with
  | error e => exact .inr ⟨rfl, rfl⟩
  | ok q => exact step_fz fun B => rfl
theorem fz_rename (dir t b : ByteArray) : Fz fun A => A.rename dir t b := by
  intro A
  show A.rename dir t b = _ ∨ (er (A.rename dir t b).1 = ((er A).rename dir t b).1 ∧ (A.rename dir t b).2 = ((er A).rename dir t b).2)
  unfold FS.rename
  rw [show (er A).ready dir [t, b] = A.ready dir [t, b] from rfl]
  cases A.ready dir [t, b] with
  | error e => exact .inr ⟨rfl, rfl⟩
  | ok i =>
    simp only []
    rw [show (er A).D i = A.D i from rfl]
    split
    · exact .inr ⟨rfl, rfl⟩
    · exact step_fz fun B => rfl
theorem fz_remove (dir t : ByteArray) : Fz fun A => A.remove dir t := by
  intro A
  show A.remove dir t = _ ∨ (er (A.remove dir t).1 = ((er A).remove dir t).1 ∧ (A.remove dir t).2 = ((er A).remove dir t).2)
  unfold FS.remove
  rw [show (er A).entry dir t = A.entry dir t from rfl]
  cases A.entry dir t with
  | error e => exact .inr ⟨rfl, rfl⟩
  | ok q => exact step_fz fun B => rfl
/-- A run of calls, each of which is done; what holds ahead of each. -/
def Along : List (FS → FS × Nat) → FS → (FS → Prop) → FS → Prop
  | [], B, _, E => E = B
  | g :: gs, B, Q, E => Q B ∧ (g B).2 = 0 ∧ Along gs (g B).1 Q E
theorem seq_fz {Q : FS → Prop} {E : FS} : ∀ {gs : List (FS → FS × Nat)} {A : FS}, (∀ g ∈ gs, Fz g) → Along gs (er A) Q E →
    ((seqF gs A).2 = 0 ∧ er (seqF gs A).1 = E) ∨ ((seqF gs A).2 = 60 ∧ ∃ A', (seqF gs A).1 = { A' with off := true } ∧ Q (er A'))
  | [], A, _, h => .inl ⟨rfl, h.symm⟩
  | g :: gs, A, hf, h => by
    obtain ⟨h1, h2, h3⟩ := h
    rcases hf g (List.mem_cons_self ..) A with e | ⟨e1, e2⟩
    · refine .inr ?_
      have : seqF (g :: gs) A = ({ A with off := true }, 60) := by
        unfold seqF
        rw [e, if_neg (show ¬ (60 : Nat) = 0 by decide)]
      rw [this]
      exact ⟨rfl, A, rfl, h1⟩
    · rw [seqF_cons (by rw [e2, h2])]
      rw [← e1] at h3
      exact seq_fz (fun g hg => hf g (List.mem_cons_of_mem _ hg)) h3
end
end AF
end Go.Proofs.YtibdiikcigokjaaGreat

/- Put and remove with a fuse; crashes; directories opened behind a crash. -/
namespace Go.Proofs.YtibdiikcigokjaaGreat
open Go Go.RowKit
set_option linter.unusedVariables false
set_option linter.unusedSimpArgs false

namespace AF
open Frame (packN packN_length packN_B8)
section
variable {A B : FS} {dir name : ByteArray} {T : Dirc} {P Q : Dirc → Prop} {x : List Nat}
theorem unT_id {T : Dirc} (h : ∀ p ∈ T, isTmp p.1 = false) : unT T = T := List.filter_eq_self.2 fun p hp => by simp [h p hp]
theorem getN_T {T : Dirc} (h : ∀ p ∈ T, isTmp p.1 = false) {t : ByteArray} (ht : isTmp t = true) : getN T t = none := by
  rw [getN_none]
  intro p hp e
  have := h p hp
  rw [e, ht] at this
  cases this
theorem unT_setTmp {T : Dirc} (hu : UpN T) {t : ByteArray} (ht : isTmp t = true) (hn : getN T t = none) (y : List Nat) : unT (setN t y T) = unT T := by
  induction T with
  | nil => show unT [(t, y)] = _; rw [unT_cons, if_pos ht]
  | cons p T ih =>
    rw [getN_cons] at hn
    split at hn
    · cases hn
    · rename_i hne
      rw [setN_cons, if_neg hne]
      split
      · rw [unT_cons, if_pos ht]
      · rw [unT_cons, unT_cons (U := T), ih (List.pairwise_cons.1 hu).2 hn]
theorem put_along (L : Live B) (H : Has B dir T) (hT : ∀ p ∈ T, isTmp p.1 = false) (hr : right name = true) (hs : name.size ≤ 28) (hnt : isTmp name = false) (hl : T.length < 4096) (h8 : B8 x) (hx : x.length ≤ 16777208) (hu : B.used + (8 + x.length) ≤ B.room)
    (D : Dur B dir P) (hP : P (setN name (packN x) T)) : Along (rawSteps dir name (packN x)) B (fun C => Dur C dir P) (B.put dir name x).1 ∧ Dur (B.put dir name x).1 dir (fun U => U = setN name (packN x) T) := by
  have htm : isTmp (tmpN ++ name) = true := isTmp_tmp name
  have ht : getN T (tmpN ++ name) = none := getN_T hT htm
  have hup := has_up L H
  have e : B.put dir name x = seqF (rawSteps dir name (packN x)) B := by
    unfold FS.put FS.raw
    rw [if_neg (by omega), if_neg (by omega), list_ok L H]
    simp only []
    unfold rawAll
    rw [if_neg]
    intro h
    rw [List.any_eq_true] at h
    obtain ⟨s, hs, he⟩ := h
    obtain ⟨p, hp, rfl⟩ := List.mem_map.1 hs
    exact getN_none.1 ht p hp (by simpa using he)
  rw [e]
  unfold rawSteps
  obtain ⟨e1, u1⟩ := create_ok L H (right_tmp hr hs) ht hl
  have D1 := dur_create L H D htm (right_tmp hr hs) ht hl
  rw [seqF_cons e1]
  obtain ⟨e2, u2⟩ := append_ok u1.live u1.here (getN_set_self _ _ _) (packN_B8 h8) (by rw [packN_length]; simp; omega) (by have := u1.used; rw [u1.room, packN_length]; omega)
  have D2 := dur_append u1.live u1.here D1 htm (c := packN x) (getN_set_self _ _ _) (by rw [packN_length]; simp; omega) (by have := u1.used; rw [u1.room, packN_length]; omega)
  rw [seqF_cons e2]
  rw [List.nil_append, set_set] at u2
  obtain ⟨e3, u3⟩ := sync_ok u2.live u2.here (getN_set_self _ _ _)
  obtain ⟨D3, S3⟩ := dur_sync u2.live u2.here D2 htm (getN_set_self _ _ _)
  rw [seqF_cons e3]
  obtain ⟨e4, u4⟩ := rename_ok u3.live u3.here (getN_set_self _ _ _) hr
  have D4 := dur_rename u3.live u3.here D3 htm hnt (getN_set_self _ _ _) hr S3 (by rw [unT_setTmp hup htm ht, unT_id hT]; exact hP)
  rw [seqF_cons e4]
  rw [del_set _ ht] at u4
  obtain ⟨e5, u5⟩ := syncDir_ok u4.live u4.here
  have hT' : ∀ p ∈ setN name (packN x) T, isTmp p.1 = false := fun p hp => by
    rcases mem_setN hp with rfl | hp
    · exact hnt
    · exact hT p hp
  have D5 := dur_syncDir (Q := fun U => U = setN name (packN x) T) u4.live u4.here D4 (unT_id hT')
  rw [seqF_cons e5]
  exact ⟨⟨D, e1, D1, e2, D2, e3, D3, e4, D4, e5, rfl⟩, D5⟩
theorem remove_fz (L : Live (er A)) (H : Has (er A) dir T) {y : List Nat} (hn : getN T name = some y) (D : Dur A dir P) (hP : P (unT (delN name T))) :
    ((A.remove dir name).2 = 0 ∧ er (A.remove dir name).1 = ((er A).remove dir name).1 ∧ Dur (A.remove dir name).1 dir P) ∨ ((A.remove dir name).2 = 60 ∧ Dur (A.remove dir name).1 dir P) := by
  rcases fz_remove dir name A with e | ⟨e1, e2⟩
  · refine .inr ?_
    have e' : A.remove dir name = ({ A with off := true }, 60) := e
    rw [e']
    exact ⟨rfl, D⟩
  · have e1' : er (A.remove dir name).1 = ((er A).remove dir name).1 := e1
    have e2' : (A.remove dir name).2 = ((er A).remove dir name).2 := e2
    have D2 : Dur ((er A).remove dir name).1 dir P := dur_remove L H D hn hP
    rw [← e1'] at D2
    exact .inl ⟨by rw [e2']; exact (remove_ok L H hn).1, e1', D2⟩
theorem syncDir_fz (L : Live (er A)) (H : Has (er A) dir T) (D : Dur A dir P) :
    ((A.syncDir dir).2 = 0 ∧ er (A.syncDir dir).1 = ((er A).syncDir dir).1 ∧ Dur (A.syncDir dir).1 dir (fun U => U = unT T)) ∨ ((A.syncDir dir).2 = 60 ∧ Dur (A.syncDir dir).1 dir P) := by
  rcases fz_syncDir dir A with e | ⟨e1, e2⟩
  · refine .inr ?_
    have e' : A.syncDir dir = ({ A with off := true }, 60) := e
    rw [e']
    exact ⟨rfl, D⟩
  · have e1' : er (A.syncDir dir).1 = ((er A).syncDir dir).1 := e1
    have e2' : (A.syncDir dir).2 = ((er A).syncDir dir).2 := e2
    have D2 : Dur ((er A).syncDir dir).1 dir (fun U => U = unT T) := dur_syncDir L H D rfl
    rw [← e1'] at D2
    exact .inl ⟨by rw [e2']; exact (syncDir_ok L H).1, e1', D2⟩
/-- Behind a crash. -/
theorem crash_dur (W : A.WF) (D : Dur A dir P) (ps : List Int) : ∃ T, Live (A.crash ps) ∧ Has (A.crash ps) dir T ∧ P (unT T) := by
  obtain ⟨i, d, hd, hdn, D⟩ := D
  obtain ⟨k, hk, he, hf⟩ := crash_look W ps hd
  have w := W.each d (List.mem_of_getElem? hd)
  refine ⟨_, ⟨W.crash ps, rfl, rfl⟩, ⟨i, _, he, hdn, rfl⟩, ?_⟩
  have hg := D.good k hk
  show P (unT (viewD (A.crash ps).files (stat d k)))
  rw [unT_congr (fs := A.files) fun p hp ht => ?_]
  · exact hg
  · have hlt := ((stat_ok w k).each p hp).1
    obtain ⟨y, hy⟩ : ∃ y, A.files[p.2]? = some y := ⟨_, List.getElem?_eq_getElem hlt⟩
    obtain ⟨z, hz, m, c1, c2, c3, _⟩ := hf p.2 y hy
    rcases D.safe k hk p hp with h1 | h1
    · rw [ht] at h1; cases h1
    · unfold safeX at h1
      rw [List.getD_eq_getElem?_getD, hz, List.getD_eq_getElem?_getD, hy]
      rw [List.getD_eq_getElem?_getD, hy] at h1
      simp only [Option.getD_some] at h1 ⊢
      rw [c3, List.take_of_length_le (by omega)]
theorem UpN.once {T : Dirc} (h : UpN T) : (T.map (·.1)).Nodup := by
  rw [List.Nodup, List.pairwise_map]
  refine List.Pairwise.imp ?_ h
  intro a b hab e
  rw [← e] at hab
  exact strLt_irrefl a.1 hab
theorem clean_tmp (dir : ByteArray) : ∀ (l : List ByteArray) (A : FS) (T : Dirc) (n : Nat), Live A → Has A dir T → l.Nodup → (∀ s ∈ l, (getN T s).isSome = true) → ∃ B, cleanGo dir l A n = (B, .ok (n + (l.filter isTmp).length)) ∧ Upd 0 0 l.length A B dir (T.filter fun p => !(isTmp p.1 && (l.any fun t => decide (t = p.1)))) ∧ ((l.filter isTmp).length = 0 → B = A)
  | [], A, T, n, L, H, _, _ => ⟨A, rfl, by
      have e : (T.filter fun p => !(isTmp p.1 && (([] : List ByteArray).any fun t => decide (t = p.1)))) = T := List.filter_eq_self.2 fun p _ => by simp
      rw [e]
      exact ⟨L, H, fun _ _ _ h => h, fun _ _ h => h, rfl, Nat.le_refl _, Nat.le_refl _, Nat.le_refl _⟩, fun _ => rfl⟩
  | s :: l, A, T, n, L, H, hn, hs => by
    have hn2 := List.nodup_cons.1 hn
    unfold cleanGo
    by_cases ht : isTmp s = true
    · rw [if_pos ht]
      obtain ⟨y, hy⟩ := Option.isSome_iff_exists.1 (hs s (List.mem_cons_self ..))
      obtain ⟨e, u⟩ := remove_ok L H hy
      rw [if_pos e]
      obtain ⟨B, h1, h2, h3⟩ := clean_tmp dir l _ _ (n + 1) u.live u.here hn2.2 fun t htl => by
        rw [getN_del_ne (fun e => hn2.1 (by rw [e]; exact htl))]
        exact hs t (List.mem_cons_of_mem _ htl)
      refine ⟨B, ?_, ?_, fun h => ?_⟩
      · rw [h1, List.filter_cons, if_pos ht, List.length_cons]
        congr 2
        omega
      · have e2 : (delN s T).filter (fun p => !(isTmp p.1 && (l.any fun t => decide (t = p.1)))) = T.filter fun p => !(isTmp p.1 && ((s :: l).any fun t => decide (t = p.1))) := by
          unfold delN
          rw [List.filter_filter]
          refine List.filter_congr fun p _ => ?_
          by_cases hp : p.1 = s
          · simp [hp, ht]
          · have : ¬ s = p.1 := fun e => hp e.symm
            simp [hp, this]
        rw [e2] at h2
        exact (u.trans h2).weak (by omega) (by omega) (by rw [List.length_cons]; omega)
      · rw [List.filter_cons, if_pos ht, List.length_cons] at h
        omega
    · rw [if_neg ht]
      obtain ⟨B, h1, h2, h3⟩ := clean_tmp dir l A T n L H hn2.2 fun t htl => hs t (List.mem_cons_of_mem _ htl)
      refine ⟨B, ?_, ?_, fun h => h3 (by rw [List.filter_cons, if_neg ht] at h; exact h)⟩
      · rw [h1, List.filter_cons, if_neg ht]
      · have e2 : T.filter (fun p => !(isTmp p.1 && (l.any fun t => decide (t = p.1)))) = T.filter fun p => !(isTmp p.1 && ((s :: l).any fun t => decide (t = p.1))) := by
          refine List.filter_congr fun p _ => ?_
          by_cases hp : p.1 = s
          · simp [hp, ht]
          · have : ¬ s = p.1 := fun e => hp e.symm
            simp [hp, this]
        rw [e2] at h2
        exact h2.weak (Nat.le_refl _) (Nat.le_refl _) (by rw [List.length_cons]; omega)
theorem prep_tmp (L : Live A) (H : Has A dir T) : ∃ B, A.prep dir = (B, .ok ((unT T).map (·.1))) ∧ Upd 0 0 (T.length + 1) A B dir (unT T) := by
  have hup := has_up L H
  obtain ⟨B, h1, h2, h3⟩ := clean_tmp dir (T.map (·.1)) A T 0 L H hup.once fun s hs => by
    obtain ⟨p, hp, rfl⟩ := List.mem_map.1 hs
    rw [mem_getN hup (k := p.1) (x := p.2) hp]
    rfl
  have eT : (T.filter fun p => !(isTmp p.1 && ((T.map (·.1)).any fun t => decide (t = p.1)))) = unT T := by
    unfold unT
    refine List.filter_congr fun p hp => ?_
    have : ((T.map (·.1)).any fun t => decide (t = p.1)) = true := by
      rw [List.any_eq_true]
      exact ⟨p.1, List.mem_map.2 ⟨p, hp, rfl⟩, by simp⟩
    rw [this, Bool.and_true]
  rw [eT, List.length_map] at h2
  rw [Nat.zero_add] at h1
  unfold FS.prep FS.tidy FS.clean
  rw [list_ok L H]
  simp only []
  rw [h1]
  simp only []
  by_cases hc : 0 < ((T.map (·.1)).filter isTmp).length
  · rw [if_pos hc]
    obtain ⟨e5, u5⟩ := syncDir_ok h2.live h2.here
    rw [if_pos e5]
    simp only []
    exact ⟨_, by rw [list_ok u5.live u5.here], (h2.trans u5).weak (Nat.le_refl _) (Nat.le_refl _) (Nat.le_refl _)⟩
  · rw [if_neg hc]
    simp only []
    exact ⟨B, by rw [list_ok h2.live h2.here], h2.weak (Nat.le_refl _) (Nat.le_refl _) (by omega)⟩
end
end AF
end Go.Proofs.YtibdiikcigokjaaGreat
