/- File systems that are on and have no fuse: what the calls do to the names and contents of a directory. -/
import Derived.Test.YtibdiikcigokjaaGreatDoorKsPlA
namespace Go.Proofs.YtibdiikcigokjaaGreatDoor
open Go
set_option linter.unusedVariables false
set_option linter.unusedSimpArgs false
namespace AF
open Frame (packN firstN)
abbrev Dirc := List (ByteArray × List Nat)
def viewD (fs : List File) (l : Names) : Dirc := l.map fun p => (p.1, (fs.getD p.2 default).b)
def setN (k : ByteArray) (x : List Nat) : Dirc → Dirc
 | [] => [(k, x)]
 | p :: l => if p.1 = k then (k, x) :: l else if ltB k p.1 then (k, x) :: p :: l else p :: setN k x l
def delN (k : ByteArray) (T : Dirc) : Dirc := T.filter fun p => !decide (p.1 = k)
def getN (T : Dirc) (k : ByteArray) : Option (List Nat) := (T.find? fun p => decide (p.1 = k)).map (·.2)
def UpN (T : Dirc) : Prop := T.Pairwise fun p q => ltB p.1 q.1 = true
structure Live (A : FS) : Prop where
 wf : A.WF
 fuse : A.fuse = none
 off : A.off = false
def Has (A : FS) (dir : ByteArray) (T : Dirc) : Prop := ∃ (i : Nat) (d : Dir), A.dirs[i]? = some d ∧ d.name = dir ∧ viewD A.files d.now = T
structure Upd (n k s : Nat) (A A' : FS) (dir : ByteArray) (T' : Dirc) : Prop where
 live : Live A'
 here : Has A' dir T'
 els : ∀ e T, e ≠ dir → Has A e T → Has A' e T
 gone : ∀ e, e ≠ dir → A.at e = none → A'.at e = none
 room : A'.room = A.room
 used : A'.used ≤ A.used + k
 steps : A'.steps ≤ A.steps + s
 few : A'.dirs.length ≤ A.dirs.length + n
theorem Upd.trans {n k s n2 k2 s2 : Nat} {A B C : FS} {dir : ByteArray} {T U : Dirc} (h : Upd n k s A B dir T) (h2 : Upd n2 k2 s2 B C dir U) : Upd (n + n2) (k + k2) (s + s2) A C dir U :=
 ⟨h2.live, h2.here, fun e V he hv => h2.els e V he (h.els e V he hv), fun e he hv => h2.gone e he (h.gone e he hv), by rw [h2.room, h.room],
  by have := h.used; have := h2.used; omega, by have := h.steps; have := h2.steps; omega, by have := h.few; have := h2.few; omega⟩
theorem Upd.weak {n k s n2 k2 s2 : Nat} {A B : FS} {dir : ByteArray} {T : Dirc} (h : Upd n k s A B dir T) (hn : n ≤ n2) (hk : k ≤ k2) (hs : s ≤ s2) : Upd n2 k2 s2 A B dir T :=
 ⟨h.live, h.here, h.els, h.gone, h.room, by have := h.used; omega, by have := h.steps; omega, by have := h.few; omega⟩
theorem getN_view (fs : List File) (k : ByteArray) : ∀ l : Names, getN (viewD fs l) k = (of l k).map fun x => (fs.getD x default).b
 | [] => rfl
 | p :: l => by
   have ih := getN_view fs k l;unfold getN viewD of at ih ⊢;simp only [List.map_cons, List.find?_cons];by_cases h : p.1 = k
   · simp [h]
   · simpa [h] using ih
theorem viewD_keys (fs : List File) (l : Names) : (viewD fs l).map (·.1) = l.map (·.1) := by unfold viewD; rw [List.map_map]; rfl
theorem viewD_up {fs : List File} {l : Names} (h : Up l) : UpN (viewD fs l) := List.pairwise_map.2 h
theorem viewD_drop (fs : List File) (l : Names) (k : ByteArray) : viewD fs (drop l k) = delN k (viewD fs l) := by
 unfold viewD delN drop
 rw [List.filter_map]
 rfl
theorem viewD_ins (fs : List File) (k : ByteArray) (x : Nat) : ∀ l : Names, viewD fs (ins k x l) = setN k (fs.getD x default).b (viewD fs l)
 | [] => rfl
 | p :: l => by
   have ih := viewD_ins fs k x l;unfold viewD at ih ⊢;simp only [ins, List.map_cons, setN];by_cases h : p.1 = k
   · simp [h]
   · by_cases h2 : ltB k p.1 = true
     · simp [h, h2]
     · simp only [h, h2, if_false, List.map_cons, ih, Bool.false_eq_true]
theorem viewD_congr {fs gs : List File} {l : Names} (h : ∀ p ∈ l, (gs.getD p.2 default).b = (fs.getD p.2 default).b) : viewD gs l = viewD fs l :=
 List.map_congr_left fun p hp => by rw [h p hp]
theorem getD_modify (fs : List File) (x y : Nat) (g : File → File) : (fs.modify x g).getD y default = if x = y ∧ y < fs.length then g (fs.getD y default) else fs.getD y default := by
 simp only [List.getD_eq_getElem?_getD, get_modify]
 by_cases h : x = y
 · subst h
   cases hx : fs[x]? with
   | none =>
     have : ¬ x < fs.length := by rw [List.getElem?_eq_none_iff] at hx; omega
     simp [this]
   | some z =>
     have : x < fs.length := (List.getElem?_eq_some_iff.1 hx).1;simp [this]
 · simp [h]
theorem viewD_ne {fs : List File} {l : Names} {x : Nat} {g : File → File} (h : x ∉ l.map (·.2)) : viewD (fs.modify x g) l = viewD fs l :=
 viewD_congr fun p hp => by rw [getD_modify, if_neg fun e => h (by rw [e.1]; exact List.mem_map.2 ⟨p, hp, rfl⟩)]
theorem viewD_b {fs : List File} {l : Names} {x : Nat} {g : File → File} (hg : ∀ y, (g y).b = y.b) : viewD (fs.modify x g) l = viewD fs l :=
 viewD_congr fun p hp => by rw [getD_modify]; split <;> first | rfl | exact hg _
theorem viewD_mod {fs : List File} {x : Nat} {g : File → File} {k : ByteArray} (hx : x < fs.length) : ∀ {l : Names}, Up l → (l.map (·.2)).Nodup → of l k = some x → viewD (fs.modify x g) l = setN k (g (fs.getD x default)).b (viewD fs l)
 | [], _, _, h => by cases h
 | p :: l, hu, hn, h => by
   have hu2 := List.pairwise_cons.1 hu;simp only [List.map_cons, List.nodup_cons] at hn;by_cases hk : p.1 = k
   · have hp2 : p.2 = x := by
      unfold of at h;simpa [hk] using h
     have h1 : viewD (fs.modify x g) l = viewD fs l := viewD_ne (by rw [← hp2]; exact hn.1);unfold viewD at h1 ⊢;simp only [List.map_cons, setN, hk, if_true];rw [h1, getD_modify, if_pos ⟨hp2.symm, by rw [hp2]; exact hx⟩, hp2]
   · have h' : of l k = some x := by
      unfold of at h ⊢;simpa [hk] using h
     have ih := viewD_mod (g := g) hx hu2.2 hn.2 h';have hlt : ¬ ltB k p.1 = true := fun h3 => by
      have := hu2.1 _ (of_mem h');exact strLt_irrefl _ (strLt_trans h3 this)
     have hpx : ¬ (x = p.2 ∧ p.2 < fs.length) := fun e => hn.1 (by rw [← e.1]; exact List.mem_map.2 ⟨_, of_mem h', rfl⟩);unfold viewD at ih ⊢;simp only [List.map_cons, setN, hk, hlt, if_false];rw [ih, getD_modify, if_neg hpx];simp
section
variable {A : FS} {dir : ByteArray} {T : Dirc}
theorem step_live (h : A.fuse = none) (g : FS → FS) : A.step g = (g A.stepOn, 0) := by
 unfold FS.step
 rw [h, if_neg (by simp)]
theorem stepOn_fuse (h : A.fuse = none) : A.stepOn.fuse = none := by unfold FS.stepOn; rw [h]; rfl
theorem Has.ready (L : Live A) {i : Nat} {d : Dir} (hd : A.dirs[i]? = some d) (hn : d.name = dir) {ss : List ByteArray} (hs : ∀ s ∈ ss, right s = true) : A.ready dir ss = .ok i := by
 rw [← hn]
 exact ready_of L.wf L.off hd hs
theorem at_keys {B : FS} (h : B.dirs.map (·.name) = A.dirs.map (·.name)) (n : ByteArray) : B.at n = A.at n := by
 unfold FS.at
 have e : ∀ l : List Dir, l.findIdx? (fun d => decide (d.name = n)) = (l.map (·.name)).findIdx? fun s => decide (s = n) := fun l => by rw [List.findIdx?_map]; rfl
 rw [e, e, h]
theorem names_mod {ds : List Dir} {i : Nat} {g : Dir → Dir} (hg : ∀ d, (g d).name = d.name) : (ds.modify i g).map (·.name) = ds.map (·.name) := by
 apply List.ext_getElem?
 intro j
 rw [List.getElem?_map, List.getElem?_map, get_modify]
 cases ds[j]? with
 | none => rfl
 | some d => by_cases h : i = j <;> simp [h, hg]
theorem apart_ne (W : A.WF) {i j : Nat} {d e : Dir} (hd : A.dirs[i]? = some d) (he : A.dirs[j]? = some e) (hij : j ≠ i) {x : Nat} (hx : x ∈ d.speaks) : x ∉ e.speaks := by
 obtain ⟨h1, e1⟩ := List.getElem?_eq_some_iff.1 hd
 obtain ⟨h2, e2⟩ := List.getElem?_eq_some_iff.1 he
 have P := List.pairwise_iff_getElem.1 W.apart
 rcases Nat.lt_or_gt_of_ne hij with h | h
 · have := P j i h2 h1 h;rw [e1, e2] at this;exact fun hxe => this x hxe hx
 · have := P i j h1 h2 h;rw [e1, e2] at this;exact this x hx
theorem sum_modify_le {α : Type} (f : α → Nat) (g : α → α) : ∀ (l : List α) (i : Nat), (∀ d, l[i]? = some d → f (g d) ≤ f d) → ((l.modify i g).map f).sum ≤ (l.map f).sum
 | [], i, h => by simp
 | d :: l, 0, h => by
   have := h d rfl;simp;omega
 | d :: l, i + 1, h => by
   have := sum_modify_le f g l i fun e he => h e (by simpa using he);simp only [List.modify_succ_cons, List.map_cons, List.sum_cons];omega
theorem used_dirs (A : FS) : A.used = (A.dirs.map fun d => (d.now.map fun p => (A.X p.2).b.length).sum).sum := by
 unfold FS.used FS.idx
 rw [List.map_flatMap]
 induction A.dirs with
 | nil => rfl
 | cons d ds ih =>
   rw [List.flatMap_cons, List.sum_append, ih, List.map_cons, List.sum_cons, List.map_map]
   rfl
theorem sum_filter_le {α : Type} (f : α → Nat) (p : α → Bool) : ∀ l : List α, ((l.filter p).map f).sum ≤ (l.map f).sum
 | [] => Nat.le_refl _
 | a :: l => by
   have := sum_filter_le f p l;rw [List.filter_cons];split <;> simp <;> omega
theorem sum_perm {α : Type} (f : α → Nat) {l m : List α} (h : l.Perm m) : (l.map f).sum = (m.map f).sum := perm_sum (h.map f)
theorem does_sum (f : Nat → Nat) {l : Names} (hu : Up l) {o : Op} (ho : opFiles o = []) : ((does l o).map fun p => f p.2).sum ≤ (l.map fun p => f p.2).sum := by
 cases o with
 | create a x => cases ho
 | remove a => exact sum_filter_le (fun p : ByteArray × Nat => f p.2) _ l
 | rename a b =>
   cases hf : of l a with
   | none =>
     have e : does l (.rename a b) = drop l a := by simp only [does, hf]
     rw [e];exact sum_filter_le (fun p : ByteArray × Nat => f p.2) _ l
   | some x =>
     have e : does l (.rename a b) = ins b x (drop l a) := by simp only [does, hf]
     rw [e];rw [sum_perm (fun p : ByteArray × Nat => f p.2) (ins_perm (hu.drop a))];have h1 : ((drop (drop l a) b).map fun p => f p.2).sum ≤ ((drop l a).map fun p => f p.2).sum := sum_filter_le (fun p : ByteArray × Nat => f p.2) _ _;have h2 : ((drop l a).map fun p => f p.2).sum + f x ≤ (l.map fun p => f p.2).sum := by
      have hm := of_mem hf;clear hf h1 hu e
      induction l with
      | nil => cases hm
      | cons p l ih =>
        unfold drop at ih ⊢;rw [List.filter_cons]
        rcases List.mem_cons.1 hm with rfl | hm
        · have := sum_filter_le (fun p : ByteArray × Nat => f p.2) (fun p => !decide (p.1 = a)) l;simp;omega
        · have := ih hm;split <;> simp <;> omega
     simp only [List.map_cons, List.sum_cons];omega
theorem Has.kept {B : FS} {i : Nat} (hi : ∀ d, A.dirs[i]? = some d → d.name = dir) (hd : ∀ j, j ≠ i → B.dirs[j]? = A.dirs[j]?) (hf : ∀ j d, j ≠ i → A.dirs[j]? = some d → viewD B.files d.now = viewD A.files d.now) (e : ByteArray) (U : Dirc) (he : e ≠ dir) (H : Has A e U) : Has B e U := by
 obtain ⟨j, d, hj, rfl, rfl⟩ := H
 have hji : j ≠ i := fun h => he (by subst h; exact hi d hj)
 exact ⟨j, d, by rw [hd j hji]; exact hj, rfl, hf j d hji hj⟩
theorem mod_ne {α : Type} (l : List α) (g : α → α) {i j : Nat} (h : j ≠ i) : (l.modify i g)[j]? = l[j]? := by
 rw [get_modify]
 cases l[j]? with
 | none => rfl
 | some d => simp [Ne.symm h]
theorem mod_eq {α : Type} {l : List α} (g : α → α) {i : Nat} {d : α} (h : l[i]? = some d) : (l.modify i g)[i]? = some (g d) := by
 rw [get_modify, h]
 simp
theorem create_ok (L : Live A) (H : Has A dir T) {name : ByteArray} (hr : right name = true) (hn : getN T name = none) (hl : T.length < 4096) :
  (A.create dir name).2 = 0 ∧ Upd 0 0 1 A (A.create dir name).1 dir (setN name [] T) := by
 obtain ⟨i, d, hd, hdn, hv⟩ := H
 have W := L.wf
 have hrd : A.ready dir [name] = .ok i := Has.ready L hd hdn (by simpa using hr)
 have hof : of d.now name = none := by
  rw [← hv, getN_view] at hn
  cases h : of d.now name with
  | none => rfl
  | some x => rw [h] at hn; cases hn
 have hln : d.now.length < 4096 := by rw [← hv] at hl; unfold viewD at hl; rw [List.length_map] at hl; exact hl
 have he : A.create dir name = (FS.did { A.stepOn with files := A.files ++ [⟨[], 0⟩] } i (.create name A.files.length), 0) := by
  unfold FS.create;rw [hrd];simp only [D_of hd, hof];rw [if_neg (by simp), if_neg (by omega), step_live L.fuse]
  rfl
 have W' := W.create dir name
 rw [he] at W' ⊢
 have ok := (W.each d (List.mem_of_getElem? hd)).ok
 have old : ∀ x, x < A.files.length → ((A.files ++ [(⟨[], 0⟩ : File)]).getD x default).b = (A.files.getD x default).b := fun x hx => by
  rw [List.getD_eq_getElem?_getD, List.getD_eq_getElem?_getD, List.getElem?_append_left hx]
 refine ⟨rfl, ⟨W', stepOn_fuse L.fuse, L.off⟩, ⟨i, d.did (.create name A.files.length), mod_eq _ hd, hdn, ?_⟩, ?_, ?_, rfl, ?_, Nat.le_refl _, ?_⟩
 · show viewD (A.files ++ [⟨[], 0⟩]) (ins name A.files.length d.now) = _;rw [viewD_ins, viewD_congr (fs := A.files) (fun p hp => old _ (ok.each p hp).1), hv];congr 1;rw [List.getD_eq_getElem?_getD, List.getElem?_append_right (Nat.le_refl _)];simp
 · refine Has.kept (i := i) (fun e he2 => by rw [hd] at he2; cases he2; exact hdn) (fun j hj => mod_ne _ _ hj) fun j e hj he2 => ?_;exact viewD_congr fun p hp => old _ (((W.each e (List.mem_of_getElem? he2)).ok).each p hp).1
 · intro e hne hat;rw [at_keys (A := A) (names_mod (g := fun d => d.did (.create name A.files.length)) fun d => rfl)];exact hat
 · have h1 := used_newFile W ⟨[], 0⟩;have h2 : FS.used (FS.did { A.stepOn with files := A.files ++ [⟨[], 0⟩] } i (.create name A.files.length)) ≤ FS.used { A with files := A.files ++ [⟨[], 0⟩] } := by
    rw [used_dirs, used_dirs];refine sum_modify_le _ _ _ _ fun e he2 => ?_;have he3 : A.dirs[i]? = some e := he2;rw [hd] at he3;cases he3;show ((ins name A.files.length d.now).map fun p => (FS.X { A with files := A.files ++ [⟨[], 0⟩] } p.2).b.length).sum ≤ (d.now.map fun p => (FS.X { A with files := A.files ++ [⟨[], 0⟩] } p.2).b.length).sum;rw [sum_perm (fun p : ByteArray × Nat => (FS.X { A with files := A.files ++ [⟨[], 0⟩] } p.2).b.length) (ins_perm ok.up)];have h3 : (FS.X { A with files := A.files ++ [⟨[], 0⟩] } A.files.length).b.length = 0 := by
     unfold FS.X;rw [List.getD_eq_getElem?_getD, List.getElem?_append_right (Nat.le_refl _)];simp
    have h4 := sum_filter_le (fun p : ByteArray × Nat => (FS.X { A with files := A.files ++ [⟨[], 0⟩] } p.2).b.length) (fun p => !decide (p.1 = name)) d.now;simp only [List.map_cons, List.sum_cons, h3];unfold drop;omega
   exact Nat.le_trans h2 (Nat.le_of_eq h1)
 · show (A.dirs.modify i _).length ≤ _;rw [List.length_modify];exact Nat.le_refl _
theorem has_entry (L : Live A) (H : Has A dir T) {name : ByteArray} {b : List Nat} (hn : getN T name = some b) :
  ∃ (i : Nat) (d : Dir) (x : Nat), A.dirs[i]? = some d ∧ d.name = dir ∧ viewD A.files d.now = T ∧ of d.now name = some x ∧ x < A.files.length ∧ (A.X x).b = b ∧ right name = true ∧ A.entry dir name = .ok (i, x) := by
 obtain ⟨i, d, hd, hdn, hv⟩ := H
 rw [← hv, getN_view] at hn
 cases h : of d.now name with
 | none => rw [h] at hn; cases hn
 | some x =>
   rw [h] at hn;have ok := (L.wf.each d (List.mem_of_getElem? hd)).ok;have hm := ok.each _ (of_mem h);refine ⟨i, d, x, hd, hdn, hv, h, hm.1, Option.some.inj hn, hm.2, ?_⟩;unfold FS.entry;rw [Has.ready L hd hdn (ss := [name]) (by simpa using hm.2)];simp only [D_of hd, h]
theorem read_ok (L : Live A) (H : Has A dir T) {name : ByteArray} {b : List Nat} (hn : getN T name = some b) : A.read dir name = .ok b := by
 obtain ⟨i, d, x, _, _, _, _, _, hb, _, he⟩ := has_entry L H hn
 unfold FS.read
 rw [he]
 simp only [hb]
theorem list_ok (L : Live A) (H : Has A dir T) : A.list dir = .ok (T.map (·.1)) := by
 obtain ⟨i, d, hd, hdn, hv⟩ := H
 unfold FS.list
 rw [Has.ready L hd hdn (ss := []) (by simp)]
 simp only [D_of hd, ← hv, viewD_keys]
theorem has_up (L : Live A) (H : Has A dir T) : UpN T := by
 obtain ⟨i, d, hd, hdn, rfl⟩ := H
 exact viewD_up ((L.wf.each d (List.mem_of_getElem? hd)).ok).up
theorem file_upd (L : Live A) {name : ByteArray} {i x k : Nat} {d : Dir} {g : File → File} {T' : Dirc} (hd : A.dirs[i]? = some d) (hdn : d.name = dir) (hx : of d.now name = some x) (W' : (A.stepOn.setFile x g).WF)
  (hT : viewD (A.files.modify x g) d.now = T') (hu : (A.setFile x g).used ≤ A.used + k) : Upd 0 k 1 A (A.stepOn.setFile x g) dir T' := by
 have W := L.wf
 refine ⟨⟨W', stepOn_fuse L.fuse, L.off⟩, ⟨i, d, hd, hdn, hT⟩, ?_, fun e _ h => h, rfl, hu, Nat.le_refl _, Nat.le_refl _⟩
 refine Has.kept (i := i) (fun e he2 => by rw [hd] at he2; cases he2; exact hdn) (fun j hj => rfl) fun j e hj he2 => ?_
 refine viewD_ne fun hm => ?_
 have h1 : x ∈ d.speaks := now_speaks (W.each d (List.mem_of_getElem? hd)) (List.mem_map.2 ⟨_, of_mem hx, rfl⟩)
 exact apart_ne W hd he2 hj h1 (now_speaks (W.each e (List.mem_of_getElem? he2)) hm)
theorem append_ok (L : Live A) (H : Has A dir T) {name : ByteArray} {b c : List Nat} (hn : getN T name = some b) (h8 : B8 c) (hl : b.length + c.length ≤ 16777216) (hr : A.used + c.length ≤ A.room) :
  (A.append dir name c).2 = 0 ∧ Upd 0 c.length 1 A (A.append dir name c).1 dir (setN name (b ++ c) T) := by
 obtain ⟨i, d, x, hd, hdn, hv, hx, hxl, hb, hrt, he⟩ := has_entry L H hn
 have W := L.wf
 have he2 : A.append dir name c = (A.stepOn.setFile x fun y => { y with b := y.b ++ c }, 0) := by
  unfold FS.append;rw [he];simp only [hb];rw [if_neg (by omega), if_neg (by omega), step_live L.fuse]
 have W' := W.append dir name h8
 rw [he2] at W' ⊢
 have ok := (W.each d (List.mem_of_getElem? hd)).ok
 refine ⟨rfl, file_upd L hd hdn hx W' ?_ (Nat.le_of_eq (W.used_append (List.mem_flatMap.2 ⟨d, List.mem_of_getElem? hd, List.mem_map.2 ⟨_, of_mem hx, rfl⟩⟩) c))⟩
 rw [viewD_mod hxl ok.up ok.once hx, hv]
 congr 1
 show (A.X x).b ++ c = _
 rw [hb]
theorem sync_ok (L : Live A) (H : Has A dir T) {name : ByteArray} {b : List Nat} (hn : getN T name = some b) : (A.sync dir name).2 = 0 ∧ Upd 0 0 1 A (A.sync dir name).1 dir T := by
 obtain ⟨i, d, x, hd, hdn, hv, hx, hxl, hb, hrt, he⟩ := has_entry L H hn
 have W := L.wf
 have he2 : A.sync dir name = (A.stepOn.setFile x fun y => { y with safe := y.b.length }, 0) := by
  unfold FS.sync;rw [he];simp only [];rw [step_live L.fuse]
 have W' := W.sync dir name
 rw [he2] at W' ⊢
 exact ⟨rfl, file_upd L hd hdn hx W' (by rw [viewD_b (g := fun y => { y with safe := y.b.length }) fun y => rfl]; exact hv) (Nat.le_of_eq (used_sync W fun y => rfl))⟩
theorem dir_upd (L : Live A) {i : Nat} {d : Dir} {g : Dir → Dir} {T' : Dirc} (hd : A.dirs[i]? = some d) (hdn : d.name = dir) (hg : ∀ e, (g e).name = e.name) (W' : (A.stepOn.setDir i g).WF)
  (hT : viewD A.files (g d).now = T') (hu : ((g d).now.map fun p => (A.X p.2).b.length).sum ≤ (d.now.map fun p => (A.X p.2).b.length).sum) : Upd 0 0 1 A (A.stepOn.setDir i g) dir T' := by
 refine ⟨⟨W', stepOn_fuse L.fuse, L.off⟩, ⟨i, g d, mod_eq _ hd, by rw [hg]; exact hdn, hT⟩, ?_, ?_, rfl, ?_, Nat.le_refl _, ?_⟩
 · exact Has.kept (i := i) (fun e he2 => by rw [hd] at he2; cases he2; exact hdn) (fun j hj => mod_ne _ _ hj) fun j e hj he2 => rfl
 · intro e hne hat;rw [at_keys (A := A) (names_mod hg)];exact hat
 · rw [used_dirs, used_dirs A];refine sum_modify_le _ _ _ _ fun e he2 => ?_;rw [show A.stepOn.dirs = A.dirs from rfl, hd] at he2;cases he2;exact hu
 · show (A.dirs.modify i _).length ≤ _;rw [List.length_modify];exact Nat.le_refl _
theorem syncDir_ok (L : Live A) (H : Has A dir T) : (A.syncDir dir).2 = 0 ∧ Upd 0 0 1 A (A.syncDir dir).1 dir T := by
 obtain ⟨i, d, hd, hdn, hv⟩ := H
 have he2 : A.syncDir dir = (A.stepOn.setDir i fun d => { d with base := d.now, pend := [] }, 0) := by
  unfold FS.syncDir;rw [Has.ready L hd hdn (ss := []) (by simp)];simp only [];rw [step_live L.fuse]
 have W' := L.wf.syncDir dir
 rw [he2] at W' ⊢
 exact ⟨rfl, dir_upd L hd hdn (fun e => rfl) W' hv (Nat.le_refl _)⟩
theorem rename_ok (L : Live A) (H : Has A dir T) {a b : ByteArray} {x : List Nat} (hn : getN T a = some x) (hr : right b = true) : (A.rename dir a b).2 = 0 ∧ Upd 0 0 1 A (A.rename dir a b).1 dir (setN b x (delN a T)) := by
 obtain ⟨i, d, y, hd, hdn, hv, hy, hyl, hb, hrt, he⟩ := has_entry L H hn
 have he2 : A.rename dir a b = (A.stepOn.did i (.rename a b), 0) := by
  unfold FS.rename;rw [Has.ready L hd hdn (ss := [a, b]) (by intro s hs; simp at hs; rcases hs with rfl | rfl <;> assumption)];simp only [D_of hd, hy];rw [if_neg (by simp), step_live L.fuse]
 have W' := L.wf.rename dir a b
 rw [he2] at W' ⊢
 have ok := (L.wf.each d (List.mem_of_getElem? hd)).ok
 refine ⟨rfl, dir_upd L hd hdn (fun e => rfl) W' ?_ (does_sum (fun x => (A.X x).b.length) ok.up (o := .rename a b) rfl)⟩
 have e : does d.now (.rename a b) = ins b y (drop d.now a) := by simp only [does, hy]
 show viewD A.files (does d.now (.rename a b)) = _
 rw [e, viewD_ins, viewD_drop, hv]
 congr 1
theorem remove_ok (L : Live A) (H : Has A dir T) {a : ByteArray} {x : List Nat} (hn : getN T a = some x) : (A.remove dir a).2 = 0 ∧ Upd 0 0 1 A (A.remove dir a).1 dir (delN a T) := by
 obtain ⟨i, d, y, hd, hdn, hv, hy, hyl, hb, hrt, he⟩ := has_entry L H hn
 have he2 : A.remove dir a = (A.stepOn.did i (.remove a), 0) := by
  unfold FS.remove;rw [he];simp only [];rw [step_live L.fuse]
 have W' := L.wf.remove dir a
 rw [he2] at W' ⊢
 have ok := (L.wf.each d (List.mem_of_getElem? hd)).ok
 refine ⟨rfl, dir_upd L hd hdn (fun e => rfl) W' ?_ (does_sum (fun x => (A.X x).b.length) ok.up (o := .remove a) rfl)⟩
 show viewD A.files (drop d.now a) = _
 rw [viewD_drop, hv]
theorem mkdir_ok (L : Live A) (hr : right dir = true) (ha : A.at dir = none) (hf : A.dirs.length < 64) : (A.mkdir dir).2 = 0 ∧ Upd 1 0 1 A (A.mkdir dir).1 dir [] := by
 have hrd : A.ready dir [] = .error 61 := by
  unfold FS.ready FS.named;rw [L.off, if_neg (by decide), hr];simp [ha]
 have he : A.mkdir dir = ({ A.stepOn with dirs := insDir ⟨dir, [], [], []⟩ A.dirs }, 0) := by
  unfold FS.mkdir;rw [hrd];simp only [if_true];rw [if_neg (by omega), step_live L.fuse]
  rfl
 have W' := L.wf.mkdir dir
 rw [he] at W' ⊢
 have hp := insDir_perm ⟨dir, [], [], []⟩ A.dirs
 refine ⟨rfl, ⟨W', stepOn_fuse L.fuse, L.off⟩, ?_, ?_, ?_, rfl, ?_, Nat.le_refl _, ?_⟩
 · obtain ⟨i, hi⟩ := List.mem_iff_getElem?.1 (hp.mem_iff.2 (List.mem_cons_self ..));exact ⟨i, _, hi, rfl, rfl⟩
 · rintro e U hne ⟨j, d, hj, rfl, rfl⟩;obtain ⟨i, hi⟩ := List.mem_iff_getElem?.1 (hp.mem_iff.2 (List.mem_cons_of_mem _ (List.mem_of_getElem? hj)));exact ⟨i, d, hi, rfl, rfl⟩
 · intro e hne hat;unfold FS.at;rw [List.findIdx?_eq_none_iff];intro d hd
   rcases List.mem_cons.1 (hp.mem_iff.1 hd) with rfl | hd
   · simpa using Ne.symm hne
   · simpa using at_none hat d hd
 · rw [used_dirs, used_dirs A];show ((insDir ⟨dir, [], [], []⟩ A.dirs).map fun d => (d.now.map fun p => (A.X p.2).b.length).sum).sum ≤ _;rw [sum_perm _ hp];simp
 · show (insDir _ A.dirs).length ≤ _;rw [hp.length_eq];simp
end
end AF
end Go.Proofs.YtibdiikcigokjaaGreatDoor
