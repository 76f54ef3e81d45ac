/- What happens in one directory leaves the others; files put with a fuse and little room (plain, seat K). -/
import Derived.Test.YtibdiikcigokjaaGreatDoorKsVcX
import Derived.Test.YtibdiikcigokjaaGreatDoorKsLvX
import Derived.Test.YtibdiikcigokjaaGreatDoorKsVdX
namespace Go.Proofs.YtibdiikcigokjaaGreatDoor
open Go Go.RowKit
set_option linter.unusedVariables false
set_option linter.unusedSimpArgs false
namespace AF
open Frame (packN packN_length packN_B8)
def Kept (e : ByteArray) (A B : FS) : Prop := ∀ (i : Nat) (d : Dir), A.dirs[i]? = some d → d.name ≠ e → B.dirs[i]? = some d ∧ ∀ x ∈ d.speaks, B.files.getD x default = A.files.getD x default
theorem Kept.refl (e : ByteArray) (A : FS) : Kept e A A := fun i d h _ => ⟨h, fun x _ => rfl⟩
theorem Kept.trans {e : ByteArray} {A B C : FS} (h : Kept e A B) (k : Kept e B C) : Kept e A C := fun i d hd hn => by
 obtain ⟨h1, h2⟩ := h i d hd hn
 obtain ⟨k1, k2⟩ := k i d h1 hn
 exact ⟨k1, fun x hx => (k2 x hx).trans (h2 x hx)⟩
theorem Kept.dur {e dir : ByteArray} {A B : FS} {P : Dirc → Prop} (h : Kept e A B) (W : A.WF) (hn : dir ≠ e) (D : Dur A dir P) : Dur B dir P := by
 obtain ⟨i, d, hd, hdn, D⟩ := D
 obtain ⟨h1, h2⟩ := h i d hd (by rw [hdn]; exact hn)
 exact ⟨i, d, h1, hdn, D.files fun k hk p hp => .inr (h2 _ (stat_speaks (W.each d (List.mem_of_getElem? hd)) hp))⟩
theorem kept_step {e : ByteArray} {A : FS} {g : FS → FS} (h : Kept e A (g A.stepOn)) : Kept e A (A.step g).1 := by
 unfold FS.step
 split
 · exact fun i d hd _ => ⟨hd, fun x _ => rfl⟩
 · exact h
theorem kept_dir {A : FS} {dir : ByteArray} {ss : List ByteArray} {i : Nat} {fs : List File} {g : Dir → Dir} (W : A.WF) (hr : A.ready dir ss = .ok i) (hf : ∀ x, x < A.files.length → fs.getD x default = A.files.getD x default) :
  Kept dir A ({ A.stepOn with files := fs, dirs := A.dirs.modify i g } : FS) := by
 obtain ⟨_, _, _, hat, d0, hd0, hn0⟩ := ready_ok hr
 intro j d hd hn
 have hji : j ≠ i := fun e => by
  subst e;rw [hd0] at hd;cases hd;exact hn hn0
 refine ⟨by show (A.dirs.modify i g)[j]? = some d; rw [mod_ne _ _ hji]; exact hd, fun x hx => hf x ?_⟩
 exact speaks_lt (W.each d (List.mem_of_getElem? hd)).runs hx
theorem kept_file {A : FS} {dir name : ByteArray} {i x : Nat} {g : File → File} (W : A.WF) (he : A.entry dir name = .ok (i, x)) : Kept dir A (A.stepOn.setFile x g) := by
 obtain ⟨hr, hof⟩ := entry_ok he
 obtain ⟨_, _, _, hat, d0, hd0, hn0⟩ := ready_ok hr
 intro j d hd hn
 have hji : j ≠ i := fun e => by
  subst e;rw [hd0] at hd;cases hd;exact hn hn0
 have hD : A.D i = d0 := by unfold FS.D; rw [List.getD_eq_getElem?_getD, hd0]; rfl
 rw [hD] at hof
 have hx0 : x ∈ d0.speaks := by
  have w := W.each d0 (List.mem_of_getElem? hd0);have := stat_speaks w (k := d0.pend.length) (p := (name, x)) (by rw [stat_last w]; exact of_mem hof);exact this
 refine ⟨hd, fun y hy => ?_⟩
 have hne : x ≠ y := fun e => by
  subst e;exact apart_ne W hd0 hd hji hx0 hy
 show (A.files.modify x g).getD y default = _
 rw [getD_modify, if_neg (fun h => hne h.1)]
theorem kept_create {A : FS} (W : A.WF) (dir t : ByteArray) : Kept dir A (A.create dir t).1 := by
 unfold FS.create
 split
 · exact Kept.refl _ _
 · rename_i i hr;split
   · exact Kept.refl _ _
   split
   · exact Kept.refl _ _
   · refine kept_step ?_;exact kept_dir W hr fun x hx => by
      show (A.files ++ [_]).getD x default = _;rw [List.getD_eq_getElem?_getD, List.getElem?_append_left hx, ← List.getD_eq_getElem?_getD]
theorem kept_append {A : FS} (W : A.WF) (dir t : ByteArray) (c : List Nat) : Kept dir A (A.append dir t c).1 := by
 unfold FS.append
 split
 · exact Kept.refl _ _
 · rename_i i x he;split
   · exact Kept.refl _ _
   split
   · exact Kept.refl _ _
   · exact kept_step (kept_file W he)
theorem kept_sync {A : FS} (W : A.WF) (dir t : ByteArray) : Kept dir A (A.sync dir t).1 := by
 unfold FS.sync
 split
 · exact Kept.refl _ _
 · rename_i i x he;exact kept_step (kept_file W he)
theorem kept_syncDir {A : FS} (W : A.WF) (dir : ByteArray) : Kept dir A (A.syncDir dir).1 := by
 unfold FS.syncDir
 split
 · exact Kept.refl _ _
 · rename_i i hr;exact kept_step (kept_dir W hr fun x _ => rfl)
theorem kept_rename {A : FS} (W : A.WF) (dir a b : ByteArray) : Kept dir A (A.rename dir a b).1 := by
 unfold FS.rename
 split
 · exact Kept.refl _ _
 · rename_i i hr;split
   · exact Kept.refl _ _
   · exact kept_step (kept_dir W hr fun x _ => rfl)
theorem kept_remove {A : FS} (W : A.WF) (dir a : ByteArray) : Kept dir A (A.remove dir a).1 := by
 unfold FS.remove
 split
 · exact Kept.refl _ _
 · rename_i i x he;exact kept_step (kept_dir W (entry_ok he).1 fun x _ => rfl)
theorem kept_seq {e : ByteArray} : ∀ (gs : List (FS → FS × Nat)) (A : FS), (∀ g ∈ gs, ∀ A : FS, A.WF → (g A).1.WF ∧ Kept e A (g A).1) → A.WF → Kept e A (seqF gs A).1 ∧ (seqF gs A).1.WF
 | [], A, _, W => ⟨Kept.refl _ _, W⟩
 | g :: gs, A, h, W => by
   obtain ⟨h1, h2⟩ := h g (List.mem_cons_self ..) A W;unfold seqF;split
   · obtain ⟨k1, k2⟩ := kept_seq gs (g A).1 (fun g hg => h g (List.mem_cons_of_mem _ hg)) h1;exact ⟨h2.trans k1, k2⟩
   · exact ⟨h2, h1⟩
theorem kept_put2 {A : FS} (W : A.WF) (dir name : ByteArray) {b : List Nat} (h8 : B8 b) : Kept dir A (A.put dir name b).1 ∧ (A.put dir name b).1.WF := by
 unfold FS.put
 split
 · exact ⟨Kept.refl _ _, W⟩
 unfold FS.raw
 split
 · exact ⟨Kept.refl _ _, W⟩
 split
 · exact ⟨Kept.refl _ _, W⟩
 · refine kept_seq _ A (fun g hg A W => ?_) W;have key : g ∈ rawSteps dir name (packN b) → (g A).1.WF ∧ Kept dir A (g A).1 := fun hg => by
    simp only [rawSteps, List.mem_cons, List.not_mem_nil, or_false] at hg
    rcases hg with rfl | rfl | rfl | rfl | rfl
    · exact ⟨W.create _ _, kept_create W _ _⟩
    · exact ⟨W.append _ _ (packN_B8 h8), kept_append W _ _ _⟩
    · exact ⟨W.sync _ _, kept_sync W _ _⟩
    · exact ⟨W.rename _ _ _, kept_rename W _ _ _⟩
    · exact ⟨W.syncDir _, kept_syncDir W _⟩
   unfold rawAll at hg;split at hg
   · rcases List.mem_cons.1 hg with rfl | hg
     · exact ⟨W.remove _ _, kept_remove W _ _⟩
     · exact key hg
   · exact key hg
theorem kept_put {A : FS} (W : A.WF) (dir name : ByteArray) {b : List Nat} (h8 : B8 b) : Kept dir A (A.put dir name b).1 := (kept_put2 W dir name h8).1
end AF
namespace AF
open Frame (packN packN_length packN_B8)
theorem Dur.like {A B : FS} {dir : ByteArray} {P : Dirc → Prop} (D : Dur A dir P) (hd : B.dirs = A.dirs) (hf : B.files = A.files) : Dur B dir P := by
 obtain ⟨i, d, h1, h2, h3⟩ := D
 exact ⟨i, d, by rw [hd]; exact h1, h2, by rw [hf]; exact h3⟩
def AlongE : List (FS → FS × Nat) → FS → (FS → Prop) → FS → Prop
 | [], B, _, E => E = B
 | g :: gs, B, Q, E => Q B ∧ (((g B).2 = 0 ∧ AlongE gs (g B).1 Q E) ∨ ((g B).2 ≠ 0 ∧ (g B).1 = B))
theorem seq_fzE {Q : FS → Prop} {E : FS} : ∀ {gs : List (FS → FS × Nat)} {A : FS}, (∀ g ∈ gs, Fz g) → AlongE gs (er A) Q E →
  ((seqF gs A).2 = 0 ∧ (seqF gs (er A)).2 = 0 ∧ er (seqF gs A).1 = E) ∨ ((seqF gs A).2 ≠ 0 ∧ ∃ C, Q C ∧ (seqF gs A).1.dirs = C.dirs ∧ (seqF gs A).1.files = C.files)
 | [], A, _, h => .inl ⟨rfl, rfl, h.symm⟩
 | g :: gs, A, hf, h => by
   obtain ⟨h1, h2⟩ := h
   rcases hf g (List.mem_cons_self ..) A with e | ⟨e1, e2⟩
   · refine .inr ?_;have : seqF (g :: gs) A = ({ A with off := true }, 60) := by
      unfold seqF;rw [e, if_neg (show ¬ (60 : Nat) = 0 by decide)]
     rw [this];exact ⟨(by decide : (60 : Nat) ≠ 0), er A, h1, rfl, rfl⟩
   · rcases h2 with ⟨h2, h3⟩ | ⟨h2, h3⟩
     · rw [seqF_cons (by rw [e2, h2]), seqF_cons h2, ← e1];rw [← e1] at h3;exact seq_fzE (fun g hg => hf g (List.mem_cons_of_mem _ hg)) h3
     · refine .inr ?_;have hne : ¬ (g A).2 = 0 := by rw [e2]; exact h2
       have : seqF (g :: gs) A = g A := by
        unfold seqF;rw [if_neg hne]
       rw [this];have e3 : er (g A).1 = er A := by rw [e1, h3]
       exact ⟨hne, er A, h1, (show (er (g A).1).dirs = (er A).dirs by rw [e3]), (show (er (g A).1).files = (er A).files by rw [e3])⟩
section
variable {A B : FS} {dir name : ByteArray} {T : Dirc} {x : List Nat} {P : Dirc → Prop}
theorem put_steps (L : Live B) (H : Has B dir T) (hT : ∀ p ∈ T, isTmp p.1 = false) (hs : name.size ≤ 28) (hx : x.length ≤ 16777208) : B.put dir name x = seqF (rawSteps dir name (packN x)) B := by
 have htm : isTmp (tmpN ++ name) = true := isTmp_tmp name
 unfold FS.put FS.raw
 rw [if_neg (by omega), if_neg (by omega), list_ok L H]
 simp only []
 unfold rawAll
 rw [if_neg]
 intro h
 rw [List.any_eq_true] at h
 obtain ⟨s, hs, he⟩ := h
 obtain ⟨p, hp, rfl⟩ := List.mem_map.1 hs
 exact getN_none.1 (getN_T hT htm) p hp (by simpa using he)
theorem put_alongE (L : Live B) (H : Has B dir T) (hT : ∀ p ∈ T, isTmp p.1 = false) (hr : right name = true) (hs : name.size ≤ 28) (hnt : isTmp name = false) (hl : T.length < 4096) (h8 : B8 x) (hx : x.length ≤ 16777208)
  (D : Dur B dir P) (hP : P (setN name (packN x) T)) : AlongE (rawSteps dir name (packN x)) B (fun C => Dur C dir P) (B.put dir name x).1 ∧
   ((B.put dir name x).2 = 0 → Upd 0 (8 + x.length) 5 B (B.put dir name x).1 dir (setN name (packN x) T) ∧ Dur (B.put dir name x).1 dir (fun U => U = setN name (packN x) T)) := by
 have htm : isTmp (tmpN ++ name) = true := isTmp_tmp name
 have ht : getN T (tmpN ++ name) = none := getN_T hT htm
 have hup := has_up L H
 rw [put_steps L H hT hs hx]
 unfold rawSteps
 obtain ⟨e1, u1⟩ := create_ok L H (right_tmp hr hs) ht hl
 have D1 := dur_create L H D htm (right_tmp hr hs) ht hl
 rw [seqF_cons e1]
 by_cases hu : (B.create dir (tmpN ++ name)).1.used + (packN x).length ≤ (B.create dir (tmpN ++ name)).1.room
 rotate_left
 · obtain ⟨i, d, y, _, _, _, _, _, hb, _, he⟩ := has_entry u1.live u1.here (getN_set_self _ _ _);have ea : (B.create dir (tmpN ++ name)).1.append dir (tmpN ++ name) (packN x) = ((B.create dir (tmpN ++ name)).1, 64) := by
    unfold FS.append;rw [he];simp only [];rw [hb, if_neg (by rw [packN_length, List.length_nil]; omega), if_pos (by omega)]
   refine ⟨⟨D, .inl ⟨e1, D1, .inr ⟨?_, ?_⟩⟩⟩, fun h0 => ?_⟩
   · show ((B.create dir (tmpN ++ name)).1.append dir (tmpN ++ name) (packN x)).2 ≠ 0;rw [ea];exact (by decide : (64 : Nat) ≠ 0)
   · show ((B.create dir (tmpN ++ name)).1.append dir (tmpN ++ name) (packN x)).1 = _;rw [ea]
   · unfold seqF at h0;split at h0
     · rename_i h;have h2 : ((B.create dir (tmpN ++ name)).1.append dir (tmpN ++ name) (packN x)).2 = 0 := h;rw [ea] at h2;cases h2
     · have h2 : ((B.create dir (tmpN ++ name)).1.append dir (tmpN ++ name) (packN x)).2 = 0 := h0;rw [ea] at h2;cases h2
 obtain ⟨e2, u2⟩ := append_ok u1.live u1.here (getN_set_self _ _ _) (packN_B8 h8) (by rw [packN_length]; simp; omega) hu
 have D2 := dur_append u1.live u1.here D1 htm (c := packN x) (getN_set_self _ _ _) (by rw [packN_length]; simp; omega) hu
 rw [seqF_cons e2]
 rw [List.nil_append, set_set] at u2
 obtain ⟨e3, u3⟩ := sync_ok u2.live u2.here (getN_set_self _ _ _)
 obtain ⟨D3, S3⟩ := dur_sync u2.live u2.here D2 htm (getN_set_self _ _ _)
 rw [seqF_cons e3]
 obtain ⟨e4, u4⟩ := rename_ok u3.live u3.here (getN_set_self _ _ _) hr
 have D4 := dur_rename u3.live u3.here D3 htm hnt (getN_set_self _ _ _) hr S3 (by rw [unT_setTmp hup htm ht, unT_id hT]; exact hP)
 rw [seqF_cons e4]
 rw [del_set _ ht] at u4
 obtain ⟨e5, u5⟩ := syncDir_ok u4.live u4.here
 have hT' : ∀ p ∈ setN name (packN x) T, isTmp p.1 = false := fun p hp => by
  rcases mem_setN hp with rfl | hp
  · exact hnt
  · exact hT p hp
 have D5 := dur_syncDir (Q := fun U => U = setN name (packN x) T) u4.live u4.here D4 (unT_id hT')
 rw [seqF_cons e5]
 refine ⟨⟨D, .inl ⟨e1, D1, .inl ⟨e2, D2, .inl ⟨e3, D3, .inl ⟨e4, D4, .inl ⟨e5, rfl⟩⟩⟩⟩⟩⟩, fun _ => ⟨?_, D5⟩⟩
 have u := (((u1.trans u2).trans u3).trans u4).trans u5
 exact u.weak (Nat.le_refl _) (by rw [packN_length]; omega) (by omega)
theorem put_fu (L : Live (er A)) (H : Has (er A) dir T) (hT : ∀ p ∈ T, isTmp p.1 = false) (hr : right name = true) (hs : name.size ≤ 28) (hnt : isTmp name = false) (hl : T.length < 4096) (h8 : B8 x) (hx : x.length ≤ 16777208)
  (D : Dur A dir P) (hP : P (setN name (packN x) T)) :
  ((A.put dir name x).2 = 0 ∧ Upd 0 (8 + x.length) 5 (er A) (er (A.put dir name x).1) dir (setN name (packN x) T) ∧ Dur (A.put dir name x).1 dir (fun U => U = setN name (packN x) T) ∧ ((er A).put dir name x).2 = 0 ∧ er (A.put dir name x).1 = ((er A).put dir name x).1) ∨ ((A.put dir name x).2 ≠ 0 ∧ Dur (A.put dir name x).1 dir P) := by
 obtain ⟨al, ok⟩ := put_alongE L H hT hr hs hnt hl h8 hx (P := P) D hP
 have e : A.put dir name x = seqF (rawSteps dir name (packN x)) A := by
  have htm : isTmp (tmpN ++ name) = true := isTmp_tmp name;unfold FS.put FS.raw;rw [if_neg (by omega), if_neg (by omega), show A.list dir = (er A).list dir from rfl, list_ok L H];simp only [];unfold rawAll;rw [if_neg];intro h;rw [List.any_eq_true] at h;obtain ⟨s, hs, he⟩ := h;obtain ⟨p, hp, rfl⟩ := List.mem_map.1 hs;exact getN_none.1 (getN_T hT htm) p hp (by simpa using he)
 have hf : ∀ g ∈ rawSteps dir name (packN x), Fz g := by
  intro g hg;simp only [rawSteps, List.mem_cons, List.not_mem_nil, or_false] at hg
  rcases hg with rfl | rfl | rfl | rfl | rfl
  · exact fz_create _ _
  · exact fz_append _ _ _
  · exact fz_sync _ _
  · exact fz_rename _ _ _
  · exact fz_syncDir _
 rw [e]
 rcases seq_fzE hf al with ⟨h1, h2, h3⟩ | ⟨h1, C, h2, h3, h4⟩
 · have h5 : ((er A).put dir name x).2 = 0 := by rw [put_steps L H hT hs hx]; exact h2
   obtain ⟨u, De⟩ := ok h5;refine .inl ⟨h1, by rw [h3]; exact u, ?_, h5, h3⟩;rw [← h3] at De;exact De
 · exact .inr ⟨h1, h2.like h3 h4⟩
end
end AF
namespace AF
open Frame (packN)
open Hex (digs)
section
variable {A : FS} {M : Meta} {T : Dirc}
theorem put_upd {dir name : ByteArray} {x : List Nat} (L : Live A) (H : Has A dir T) (D : Dur A dir (fun _ => True)) (hT : ∀ p ∈ T, isTmp p.1 = false) (hr : right name = true) (hs : name.size ≤ 28) (hnt : isTmp name = false) (hl : T.length < 4096) (h8 : B8 x) (hx : x.length ≤ 16777208)
  (h0 : (A.put dir name x).2 = 0) : Upd 0 (8 + x.length) 5 A (A.put dir name x).1 dir (setN name (packN x) T) :=
 ((put_alongE L H hT hr hs hnt hl h8 hx (P := fun _ => True) D trivial).2 h0).1
theorem MInv.mf_put (I : MInv A M T) {id : Int} {b : List Nat} (hid : IdOk id) (h8 : B8 b) (hb : b.length ≤ 5000) (hg : M.get id = none) : MF { M with S := setT id b M.S } (setN (nmI 98 id) (packN b) T) := by
 have up0 := has_up I.live I.has
 have mf := I.mf
 have hgS : getT M.S id = none := by
  unfold Meta.get at hg
  cases hd : getT M.D id with
  | some b => rw [hd] at hg; cases hg
  | none => rw [hd] at hg; exact hg
 have other : ∀ k x, k ≠ nmI 98 id → (k, x) ∈ T → (k, x) ∈ setN (nmI 98 id) (packN b) T := fun k x hk h =>
  getN_mem (by rw [getN_set_ne _ (Ne.symm hk)]; exact mem_getN up0 h)
 have fne : ∀ n, IdOk n → nmI 102 n ≠ nmI 98 id := fun n hn e => by
  have := (nmI_inj (by decide) (by decide) hn hid e).1;omega
 refine ⟨setT_up I.upS, I.upD, I.foUp, ?_, I.okD, I.foOk, I.lenD, ?_, ?_, ?_, ?_⟩
 · intro p hp
   rcases (mem_setT I.upS).1 hp with rfl | ⟨_, hp⟩
   · exact ⟨hid, h8, hb⟩
   · exact I.okS p hp
 · rcases mf.fold with h | ⟨h1, h2, h3⟩
   · exact .inl h
   · refine .inr ⟨h1, h2, other _ _ (fne _ ?_) h3⟩;obtain ⟨q, hq, e⟩ := top_mem h1;rw [← e];exact (I.okD q hq).1
 · intro k x h
   rcases mem_setN h with h | h
   · cases h;exact .inl ⟨(id, b), (mem_setT I.upS).2 (.inl rfl), rfl, rfl⟩
   · rcases mf.fromT k x h with ⟨p, hp, e1, e2⟩ | h
     · refine .inl ⟨p, (mem_setT I.upS).2 (.inr ⟨fun e3 => ?_, hp⟩), e1, e2⟩;exact getT_none.1 hgS p hp e3
     · exact .inr h
 · intro p hp
   rcases (mem_setT I.upS).1 hp with rfl | ⟨hne, hp⟩
   · exact getN_mem (getN_set_self _ _ _)
   · exact other _ _ (fun e => hne (nmI_inj (by decide) (by decide) (I.okS p hp).1 hid e).2) (mf.toS p hp)
 · intro p hp;obtain ⟨x, hx⟩ := mf.toF p hp;exact ⟨x, other _ _ (fne _ (I.foOk p hp)) hx⟩
theorem MInv.putU (I : MInv A M T) {id : Int} {b : List Nat} (hid : IdOk id) (hg : M.get id = none) (h8 : B8 b) (hb : b.length ≤ 5000) (D : Dur A M.dir (fun _ => True)) (e : (A.put M.dir (nmI 98 id) b).2 = 0) (hf : M.S.length < 4000) :
  ∃ A' T', M.put A id b = (A', { M with S := setT id b M.S }, 0) ∧ MInv A' { M with S := setT id b M.S } T' ∧ Upd 0 (8 + b.length) 5 A A' M.dir T' := by
 have hfo : M.Fo.length ≤ 1 := by rcases I.fold with ⟨e, _⟩ | ⟨_, e⟩ <;> rw [e] <;> simp
 have u := put_upd (name := nmI 98 id) (x := b) I.live I.has D I.plain (Fnm.nm_right (by decide) (by decide) _) (by unfold nmI; rw [Fnm.nm_size]; decide) (Fnm.nm_tmp (by decide) _) (by have := I.few; omega) h8 (by omega) e
 have hgS : getT M.S id = none := by
  unfold Meta.get at hg
  cases hd : getT M.D id with
  | some b => rw [hd] at hg; cases hg
  | none => rw [hd] at hg; exact hg
 refine ⟨_, _, ?_, ?_, u⟩
 · unfold Meta.put;rw [if_neg (by have := hid.1; have := hid.2; omega), hg];simp only [];rw [if_pos e]
 · have hup := has_up I.live I.has;have hup2 := has_up u.live u.here;refine ⟨u.live, u.here, setT_up I.upS, I.upD, ?_, I.okD, I.lenD, I.fold, ?_⟩
   · intro p hp
     rcases (mem_setT I.upS).1 hp with rfl | ⟨_, hp⟩
     · exact ⟨hid, h8, hb⟩
     · exact I.okS p hp
   · intro k x;show _ ↔ _;rw [mem_setN_iff hup hup2];constructor
     · rintro (h | ⟨hne, hm⟩)
       · cases h;exact .inl ⟨(id, b), (mem_setT I.upS).2 (.inl rfl), rfl, rfl⟩
       · rcases (I.files k x).1 hm with ⟨p, hp, e1, e2⟩ | h
         · refine .inl ⟨p, (mem_setT I.upS).2 (.inr ⟨fun e3 => hne ?_, hp⟩), e1, e2⟩;simp only [e1, e3]
         · exact .inr h
     · rintro (⟨p, hp, e1, e2⟩ | ⟨p, hp, e1, e2⟩)
       · rcases (mem_setT I.upS).1 hp with rfl | ⟨hne, hp⟩
         · exact .inl (by rw [e1, e2])
         · refine .inr ⟨fun e3 => hne ?_, (I.files k x).2 (.inl ⟨p, hp, e1, e2⟩)⟩;simp only [e1] at e3;exact (nmI_inj (by decide) (by decide) (I.okS p hp).1 hid e3).2
       · refine .inr ⟨fun e3 => ?_, (I.files k x).2 (.inr ⟨p, hp, e1, e2⟩)⟩;simp only [e1] at e3;have hid2 : IdOk p.1 := by
          rcases I.fold with ⟨e4, _⟩ | ⟨ht, e4⟩
          · rw [e4] at hp; cases hp
          · rw [e4, List.mem_singleton] at hp;subst hp;obtain ⟨q, hq, e5⟩ := top_mem ht;simp only [← e5];exact (I.okD q hq).1
         have := (nmI_inj (by decide) (by decide) hid2 hid e3).1;omega
set_option maxHeartbeats 1000000 in
theorem MInv.foldsU (I : MInv A M T) (upto : Int) {w : Nat} (hw : wt M.entries ≤ w) (hw2 : w ≤ 10000000) (D : Dur A M.dir (fun _ => True)) (hp : (A.put M.dir (nmI 102 (topT (M.entries.filter (fun p => decide (p.1 ≤ max upto (topT M.Fo)))))) (pairsE (M.entries.filter (fun p => decide (p.1 ≤ max upto (topT M.Fo)))))).2 = 0) (hf : M.S.length < 4000) :
  ∃ A' M' T' e, M.fold A upto = (A', M', e) ∧ (e = 0 ∨ e = 91) ∧ (e = 91 → ∀ p ∈ M.entries, ¬ p.1 ≤ upto) ∧ MInv A' M' T' ∧ M'.dir = M.dir ∧ M'.entries = M.entries ∧ M'.S.length ≤ M.S.length ∧ Upd 0 (13 + w) (M.S.length + 8) A A' M.dir T' := by
 have hfo : M.Fo.length ≤ 1 := by rcases I.fold with ⟨e, _⟩ | ⟨_, e⟩ <;> rw [e] <;> simp
 have hE := I.upE
 generalize hm : max upto (topT M.Fo) = m at hp
 generalize hs : M.entries.filter (fun p => decide (p.1 ≤ m)) = some at hp
 have hsm : ∀ p ∈ some, p ∈ M.entries ∧ p.1 ≤ m := fun p hp => by rw [← hs] at hp; have := List.mem_filter.1 hp; exact ⟨this.1, by simpa using this.2⟩
 have hms : ∀ p ∈ M.entries, p.1 ≤ m → p ∈ some := fun p hp hl => by rw [← hs]; exact List.mem_filter.2 ⟨hp, by simpa using hl⟩
 unfold Meta.fold
 simp only [hm, hs]
 by_cases hlast : topT some < 0
 · rw [if_pos hlast];refine ⟨A, M, T, 91, rfl, .inr rfl, fun _ p hp hle => ?_, I, rfl, rfl, Nat.le_refl _, (Upd.refl I.live I.has).weak (Nat.le_refl _) (by omega) (by omega)⟩;have := le_top (hms p hp (by omega));have := (I.okE p hp).1.1;omega
 rw [if_neg hlast]
 by_cases hdone : topT M.Fo = topT some ∧ M.Fo.length = 1 ∧ ∀ p ∈ M.S, topT some < p.1
 · rw [if_pos hdone];exact ⟨A, M, T, 0, rfl, .inl rfl, (fun e => by cases e), I, rfl, rfl, Nat.le_refl _, (Upd.refl I.live I.has).weak (Nat.le_refl _) (by omega) (by omega)⟩
 rw [if_neg hdone]
 have hok : ∀ p ∈ some, IdOk p.1 ∧ B8 p.2 ∧ p.2.length ≤ 5000 := fun p hp => I.okE p (hsm p hp).1
 have hwt : (pairsE some).length ≤ 5 + w := by
  have h1 : wt some ≤ w := by rw [← hs]; exact Nat.le_trans (wt_filter _ _) hw
  have h2 := len_wt some;have := pairsE_wt (E := some) (fun p hp => (hok p hp).2.2) (by omega);omega
 rw [if_neg (by omega)]
 generalize hl : topT some = last at *
 obtain ⟨pl, hpl, epl⟩ := top_mem (T := some) (by rw [hl]; omega)
 rw [hl] at epl
 have hid : IdOk last := by rw [← epl]; exact (hok pl hpl).1
 have e1 : (A.put M.dir (nmI 102 last) (pairsE some)).2 = 0 := hp
 have u1 := put_upd (name := nmI 102 last) (x := pairsE some) I.live I.has D I.plain (Fnm.nm_right (by decide) (by decide) _) (by unfold nmI; rw [Fnm.nm_size]; decide) (Fnm.nm_tmp (by decide) _) (by have := I.few; omega) (pairsE_B8 fun p hp => (hok p hp).2.1) (by omega) e1
 rw [e1]
 simp only [ne_eq, not_true, if_false]
 have hfil : M.entries.filter (fun p => decide (p.1 ≤ last)) = some := by
  rw [← hs];apply List.filter_congr;intro p hp;have h1 : last ≤ m := by rw [← epl]; exact (hsm pl hpl).2
  by_cases h : p.1 ≤ m
  · have := le_top (hms p hp h);rw [hl] at this;simp [h, this]
  · have : ¬ p.1 ≤ last := by omega
    simp [h, this]
 rw [hfil]
 generalize hA1 : (A.put M.dir (nmI 102 last) (pairsE some)).1 = A1 at *
 have up0 := has_up I.live I.has
 have up1 := has_up u1.live u1.here
 have inT1 : ∀ k x, (k, x) ∈ setN (nmI 102 last) (packN (pairsE some)) T ↔ (k = nmI 102 last ∧ x = packN (pairsE some)) ∨ (k ≠ nmI 102 last ∧ (k, x) ∈ T) := fun k x => by
  rw [mem_setN_iff up0 up1, Prod.mk.injEq]
 have nS : (M.S.map (·.1)).Nodup := I.upS.nodup
 have hFo2 : UpT (setT last () M.Fo) := setT_up I.foUp
 have nF : ((setT last () M.Fo).map (·.1)).Nodup := hFo2.nodup
 unfold Meta.remove
 simp only [if_true]
 obtain ⟨A2, e2, u2⟩ := goG_ok M.dir (c := 98) (by decide) (fun n => decide (n ≤ last)) (M.S.map (·.1)) A1 M.S false _ u1.live u1.here nS (fun n hn => by obtain ⟨p, hp, rfl⟩ := List.mem_map.1 hn; exact (I.okS p hp).1) fun n hn _ => by
  obtain ⟨p, hp, rfl⟩ := List.mem_map.1 hn;refine ⟨packN p.2, mem_getN up1 ((inT1 _ _).2 (.inr ⟨fun e => ?_, (I.files _ _).2 (.inl ⟨p, hp, rfl, rfl⟩)⟩))⟩;have := (nmI_inj (by decide) (by decide) (I.okS p hp).1 hid e).1;omega
 rw [e2]
 simp only [ne_eq, not_true, if_false]
 have up2 := has_up u2.live u2.here
 have idF : ∀ n ∈ (setT last () M.Fo).map (·.1), IdOk n := fun n hn => by
  obtain ⟨p, hp, rfl⟩ := List.mem_map.1 hn
  rcases (mem_setT I.foUp).1 hp with rfl | ⟨_, hp⟩
  · exact hid
  · exact I.foOk p hp
 obtain ⟨A3, e3, u3⟩ := goG_ok M.dir (c := 102) (by decide) (fun n => decide (n ≠ last)) ((setT last () M.Fo).map (·.1)) A2 (setT last () M.Fo) (false || (M.S.map (·.1)).any fun n => decide (n ≤ last)) _ u2.live u2.here nF idF fun n hn hne => by
  obtain ⟨p, hp, rfl⟩ := List.mem_map.1 hn;simp only [decide_eq_true_eq] at hne
  rcases (mem_setT I.foUp).1 hp with rfl | ⟨_, hp⟩
  · exact absurd rfl hne
  · refine ⟨packN (pairsE M.D), mem_getN up2 (List.mem_filter.2 ⟨(inT1 _ _).2 (.inr ⟨fun e => hne (nmI_inj (by decide) (by decide) (I.foOk p hp) hid e).2, (I.files _ _).2 (.inr ⟨p, hp, rfl, rfl⟩)⟩), ?_⟩)⟩;simp only [Bool.not_eq_true', List.any_eq_false, Bool.and_eq_true, decide_eq_true_eq];rintro n hn2 ⟨_, e⟩;obtain ⟨q, hq, rfl⟩ := List.mem_map.1 hn2;have := (nmI_inj (by decide) (by decide) (I.foOk p hp) (I.okS q hq).1 e).1;omega
 rw [show (fun n => if (102 : Nat) = 98 then decide (n ≤ last) else decide (n ≠ last)) = fun n : Int => decide (n ≠ last) from by funext n; rw [if_neg (by decide)]]
 rw [e3]
 simp only [ne_eq, not_true, if_false]
 have eS : M.S.filter (fun q => !(decide (q.1 ∈ M.S.map (·.1)) && decide (q.1 ≤ last))) = M.S.filter fun q => decide (last < q.1) := by
  apply List.filter_congr;intro q hq;have : q.1 ∈ M.S.map (·.1) := List.mem_map.2 ⟨q, hq, rfl⟩;by_cases h : q.1 ≤ last
  · have h2 : ¬ last < q.1 := by omega
    simp [this, h, h2]
  · have h2 : last < q.1 := by omega
    simp [this, h, h2]
 have eF : (setT last () M.Fo).filter (fun q => !(decide (q.1 ∈ (setT last () M.Fo).map (·.1)) && decide (q.1 ≠ last))) = [(last, ())] := by
  refine tab_ext (filter_up hFo2) (List.pairwise_singleton ..) fun p => ?_;rw [List.mem_filter, List.mem_singleton, mem_setT I.foUp];constructor
  · rintro ⟨h1, h2⟩
    rcases h1 with h1 | ⟨h1, h3⟩
    · exact h1
    · have : p.1 ∈ (setT last () M.Fo).map (·.1) := List.mem_map.2 ⟨p, (mem_setT I.foUp).2 (.inr ⟨h1, h3⟩), rfl⟩;simp [h1, this] at h2
  · rintro rfl;exact ⟨.inl rfl, by simp⟩
 simp only [ne_eq] at eF
 rw [eS, eF]
 generalize hT3 : (List.filter (fun q : ByteArray × List Nat => !((setT last () M.Fo).map (·.1)).any fun n => decide (n ≠ last) && decide (q.1 = nmI 102 n)) (List.filter (fun q : ByteArray × List Nat => !(M.S.map (·.1)).any fun n => decide (n ≤ last) && decide (q.1 = nmI 98 n)) (setN (nmI 102 last) (packN (pairsE some)) T))) = T3 at u3
 generalize hM : ({ dir := M.dir, S := M.S.filter fun q => decide (last < q.1), Fo := [(last, ())], D := some } : Meta) = M'
 have hMd : M'.dir = M.dir := by rw [← hM]
 have hMS : M'.S = M.S.filter fun q => decide (last < q.1) := by rw [← hM]
 have hMF : M'.Fo = [(last, ())] := by rw [← hM]
 have hMD : M'.D = some := by rw [← hM]
 have hupsome : UpT some := by rw [← hs]; exact filter_up hE
 have hfiles : ∀ k x, (k, x) ∈ T3 ↔ (∃ p ∈ M'.S, k = nmI 98 p.1 ∧ x = packN p.2) ∨ (∃ p ∈ M'.Fo, k = nmI 102 p.1 ∧ x = packN (pairsE M'.D)) := by
  intro k x;rw [← hT3, List.mem_filter, List.mem_filter, inT1, hMS, hMF, hMD];simp only [Bool.not_eq_true', List.any_eq_false, Bool.and_eq_true, decide_eq_true_eq, not_and];constructor
  · rintro ⟨⟨h1, h2⟩, h3⟩
    rcases h1 with ⟨rfl, rfl⟩ | ⟨hne, hm2⟩
    · exact .inr ⟨_, List.mem_singleton.2 rfl, rfl, rfl⟩
    · rcases (I.files k x).1 hm2 with ⟨p, hp, rfl, rfl⟩ | ⟨p, hp, rfl, rfl⟩
      · refine .inl ⟨p, List.mem_filter.2 ⟨hp, ?_⟩, rfl, rfl⟩;have : ¬ p.1 ≤ last := fun h => h2 p.1 (List.mem_map.2 ⟨p, hp, rfl⟩) h rfl;simp only [decide_eq_true_eq];omega
      · have hpn : p.1 ≠ last := fun h => hne (by rw [h]);exact absurd rfl (h3 p.1 (List.mem_map.2 ⟨p, (mem_setT I.foUp).2 (.inr ⟨hpn, hp⟩), rfl⟩) hpn)
  · rintro (⟨p, hp, rfl, rfl⟩ | ⟨p, hp, rfl, rfl⟩)
    · have hp2 := List.mem_filter.1 hp;simp only [decide_eq_true_eq] at hp2;refine ⟨⟨.inr ⟨fun e => ?_, (I.files _ _).2 (.inl ⟨p, hp2.1, rfl, rfl⟩)⟩, fun n hn hle e => ?_⟩, fun n hn hne e => ?_⟩
      · have := (nmI_inj (by decide) (by decide) (I.okS p hp2.1).1 hid e).1;omega
      · obtain ⟨q, hq, rfl⟩ := List.mem_map.1 hn;have := (nmI_inj (by decide) (by decide) (I.okS p hp2.1).1 (I.okS q hq).1 e).2;omega
      · have := (nmI_inj (by decide) (by decide) (I.okS p hp2.1).1 (idF n hn) e).1;omega
    · rw [List.mem_singleton] at hp;subst hp;refine ⟨⟨.inl ⟨rfl, rfl⟩, fun n hn hle e => ?_⟩, fun n hn hne e => ?_⟩
      · obtain ⟨q, hq, rfl⟩ := List.mem_map.1 hn;have := (nmI_inj (by decide) (by decide) hid (I.okS q hq).1 e).1;omega
      · exact hne (nmI_inj (by decide) (by decide) hid (idF n hn) e).2.symm
 have inv : ∀ A4, Upd 0 0 1 A3 A4 M.dir T3 → MInv A4 M' T3 := fun A4 u4 => by
  refine ⟨u4.live, by rw [hMd]; exact u4.here, by rw [hMS]; exact filter_up I.upS, by rw [hMD]; exact hupsome, ?_, by rw [hMD]; exact hok, by rw [hMD]; omega, ?_, hfiles⟩
  · intro p hp;rw [hMS] at hp;exact I.okS p (List.mem_filter.1 hp).1
  · refine .inr ?_;rw [hMD, hMF, hl];exact ⟨by omega, rfl⟩
 have hent : M'.entries = M.entries := by
  have upE' : UpT M'.entries := copyT_up (by rw [hMS]; exact filter_up I.upS);refine tab_ext2 upE' hE fun k => ?_;show getT (copyT M'.S M'.D) k = _;rw [getT_copy (by rw [hMD]; exact hupsome), hMS, hMD];have h1 : getT some k = if decide (k ≤ last) = true then getT M.entries k else none := by
   rw [← hfil];exact getT_filter (fun n => decide (n ≤ last)) _ _
  have h2 : getT (M.S.filter fun q => decide (last < q.1)) k = if decide (last < k) = true then getT M.S k else none := getT_filter (fun n => decide (last < n)) _ _
  rw [h1, h2];by_cases hk : k ≤ last
  · have hk2 : ¬ last < k := by omega
    simp only [hk, hk2, decide_true, decide_false, if_true, Bool.false_eq_true, if_false];cases getT M.entries k <;> rfl
  · have hk2 : last < k := by omega
    simp only [hk, hk2, decide_true, decide_false, if_true, Bool.false_eq_true, if_false];rw [I.getE];unfold Meta.get;have : getT M.D k = none := by
     rw [getT_none];intro p hp e;have hpE : p ∈ M.entries := by
      refine getT_mem (k := p.1) (x := p.2) ?_;rw [I.getE];unfold Meta.get;rw [mem_getT I.upD (show (p.1, p.2) ∈ M.D from hp)]
     have h3 : p.1 ≤ m := by
      have := le_top hp;rw [← I.topFo] at this;omega
     have := le_top (hms p hpE h3);rw [hl] at this;omega
    rw [this]
 have hSl : M'.S.length ≤ M.S.length := by rw [hMS]; exact List.length_filter_le _ _
 have hFl : ((setT last () M.Fo).map (·.1)).length ≤ 2 := by
  rw [List.length_map];have := (setT_length last () M.Fo).1;omega
 have ut := (u1.trans u2).trans u3
 rw [List.length_map] at ut
 obtain ⟨e4, u4⟩ := syncDir_ok u3.live u3.here
 split
 · refine ⟨_, M', T3, _, rfl, .inl e4, (fun e => by rw [e4] at e; cases e), inv _ u4, hMd, hent, hSl, ?_⟩;exact (ut.trans u4).weak (Nat.le_refl _) (by omega) (by omega)
 · refine ⟨_, M', T3, _, rfl, .inl rfl, (fun e => by cases e), inv _ ((Upd.refl u3.live u3.here).weak (Nat.le_refl _) (Nat.le_refl _) (by omega)), hMd, hent, hSl, ?_⟩;exact ut.weak (Nat.le_refl _) (by omega) (by omega)
theorem put_fuM (I : MInv (er A) M T) (D : Dur A M.dir (fun U => U = T)) {id : Int} {b : List Nat} (hid : IdOk id) (hg : M.get id = none) (h8 : B8 b) (hb : b.length ≤ 5000) (hf : M.S.length < 4000) :
  (∃ A' T', M.put A id b = (A', { M with S := setT id b M.S }, 0) ∧ MInv (er A') { M with S := setT id b M.S } T' ∧ Upd 0 (8 + b.length) 5 (er A) (er A') M.dir T' ∧ Dur A' M.dir (fun U => U = T')) ∨
  ((M.put A id b).2.2 ≠ 0 ∧ Dur (M.put A id b).1 M.dir (fun U => ∃ M', MF M' U ∧ M'.dir = M.dir ∧ ((∀ k, M'.get k = M.get k) ∨ ∀ k, M'.get k = if k = id then some b else M.get k))) := by
 have hfo : M.Fo.length ≤ 1 := by rcases I.fold with ⟨e, _⟩ | ⟨_, e⟩ <;> rw [e] <;> simp
 have hlT : T.length < 4096 := by have := I.few; omega
 have hr : right (nmI 98 id) = true := Fnm.nm_right (by decide) (by decide) _
 have hs : (nmI 98 id).size ≤ 28 := by unfold nmI; rw [Fnm.nm_size]; decide
 have hM : ∀ B : FS, M.put B id b = if (B.put M.dir (nmI 98 id) b).2 = 0 then ((B.put M.dir (nmI 98 id) b).1, { M with S := setT id b M.S }, 0) else ((B.put M.dir (nmI 98 id) b).1, M, (B.put M.dir (nmI 98 id) b).2) := fun B => by
  unfold Meta.put;rw [if_neg (by have := hid.1; have := hid.2; omega), hg]
 have Dt : Dur (er A) M.dir (fun _ => True) := (D.like (B := er A) rfl rfl).mono fun _ _ => trivial
 have mk2 := I.mf_put hid h8 hb hg
 have P2 : ∀ U, U = T ∨ U = setN (nmI 98 id) (packN b) T → ∃ M', MF M' U ∧ M'.dir = M.dir ∧ ((∀ k, M'.get k = M.get k) ∨ ∀ k, M'.get k = if k = id then some b else M.get k) := by
  rintro U (rfl | rfl)
  · exact ⟨M, I.mf, rfl, .inl fun _ => rfl⟩
  · exact ⟨_, mk2, rfl, .inr (get_putM hg)⟩
 rw [hM]
 rcases put_fu (P := fun U => U = T ∨ U = setN (nmI 98 id) (packN b) T) I.live I.has I.plain hr hs (Fnm.nm_tmp (by decide) _) hlT h8 (by omega) (D.mono fun _ h => .inl h) (.inr rfl) with ⟨h1, h2, h3, h4, h5⟩ | ⟨h1, h2⟩
 · obtain ⟨A', T', e, I', u⟩ := I.putU hid hg h8 hb Dt h4 hf;rw [hM, if_pos h4] at e;have eA : A' = er (A.put M.dir (nmI 98 id) b).1 := by rw [h5]; exact (congrArg Prod.fst e).symm
   have eT : T' = setN (nmI 98 id) (packN b) T := Has.uniq I'.live.wf I'.has (by rw [eA]; exact h2.here);refine .inl ⟨_, T', by rw [if_pos h1], ?_, ?_, ?_⟩
   · rw [← eA]; exact I'
   · rw [← eA]; exact u
   · rw [eT]; exact h3
 · rw [if_neg h1];exact .inr ⟨h1, h2.mono P2⟩
theorem fold_fu (I : MInv (er A) M T) (D : Dur A M.dir (fun U => U = T)) (upto : Int) {w : Nat} (hw : wt M.entries ≤ w) (hw2 : w ≤ 10000000) (hf : M.S.length < 4000) :
  (∃ A' M' T' e, M.fold A upto = (A', M', e) ∧ (e = 0 ∨ e = 91) ∧ (e = 91 → ∀ p ∈ M.entries, ¬ p.1 ≤ upto) ∧ MInv (er A') M' T' ∧ M'.dir = M.dir ∧ M'.entries = M.entries ∧ M'.S.length ≤ M.S.length ∧ Upd 0 (13 + w) (M.S.length + 8) (er A) (er A') M.dir T' ∧ Dur A' M.dir (fun U => U = T')) ∨
  ((M.fold A upto).2.2 ≠ 0 ∧ Dur (M.fold A upto).1 M.dir (fun U => ∃ M', MF M' U ∧ M'.dir = M.dir ∧ ∀ k, M'.get k = M.get k)) := by
 have Dt : Dur (er A) M.dir (fun _ => True) := (D.like (B := er A) rfl rfl).mono fun _ _ => trivial
 by_cases hp : ((er A).put M.dir (nmI 102 (topT (M.entries.filter (fun p => decide (p.1 ≤ max upto (topT M.Fo)))))) (pairsE (M.entries.filter (fun p => decide (p.1 ≤ max upto (topT M.Fo)))))).2 = 0
 rotate_left
 · have hfo : M.Fo.length ≤ 1 := by rcases I.fold with ⟨e, _⟩ | ⟨_, e⟩ <;> rw [e] <;> simp
   unfold Meta.fold;dsimp only;generalize hm : max upto (topT M.Fo) = m at hp ⊢;generalize hs : M.entries.filter (fun p => decide (p.1 ≤ m)) = sm at hp ⊢;by_cases hlast : topT sm < 0
   · rw [if_pos hlast];exact .inl ⟨A, M, T, 91, rfl, .inr rfl, fun _ p hp hle => by
      have h9 : p ∈ sm := by rw [← hs]; exact List.mem_filter.2 ⟨hp, by simp only [decide_eq_true_eq]; omega⟩
      have := le_top h9;have := (I.okE p hp).1.1;omega, I, rfl, rfl, Nat.le_refl _, (Upd.refl I.live I.has).weak (Nat.le_refl _) (by omega) (by omega), D⟩
   rw [if_neg hlast];by_cases hdone : topT M.Fo = topT sm ∧ M.Fo.length = 1 ∧ ∀ p ∈ M.S, topT sm < p.1
   · rw [if_pos hdone];exact .inl ⟨A, M, T, 0, rfl, .inl rfl, fun e => absurd e (by decide), I, rfl, rfl, Nat.le_refl _, (Upd.refl I.live I.has).weak (Nat.le_refl _) (by omega) (by omega), D⟩
   rw [if_neg hdone];generalize hl : topT sm = last at hp ⊢ hlast;have hmem : ∀ p ∈ sm, p ∈ M.entries ∧ p.1 ≤ m := fun p hp => by rw [← hs] at hp; have := List.mem_filter.1 hp; exact ⟨this.1, by simpa using this.2⟩
   have hok : ∀ p ∈ sm, IdOk p.1 ∧ B8 p.2 ∧ p.2.length ≤ 5000 := fun p hp => I.okE p (hmem p hp).1;have hwt : (pairsE sm).length ≤ 5 + w := by
    have h1 : wt sm ≤ w := by rw [← hs]; exact Nat.le_trans (wt_filter _ _) hw
    have h2 := len_wt sm;have := pairsE_wt (E := sm) (fun p hp => (hok p hp).2.2) (by omega);omega
   obtain ⟨pl, hpl, epl⟩ := top_mem (T := sm) (by rw [hl]; omega);rw [hl] at epl;have h42 : ¬ 16777216 < (pairsE sm).length := by omega
   rw [if_neg h42];have hid : IdOk last := by rw [← epl]; exact (hok pl hpl).1
   have hr : right (nmI 102 last) = true := Fnm.nm_right (by decide) (by decide) _;have hz : (nmI 102 last).size ≤ 28 := by unfold nmI; rw [Fnm.nm_size]; decide
   have hlT : T.length < 4096 := by have := I.few; omega
   have h8 : B8 (pairsE sm) := pairsE_B8 fun p hp => (hok p hp).2.1;have up0 := has_up I.live I.has;have fin : ∀ U, U = T ∨ FP M T sm last U → ∃ M', MF M' U ∧ M'.dir = M.dir ∧ ∀ k, M'.get k = M.get k := by
    rintro U (rfl | h)
    · exact ⟨M, I.mf, rfl, fun _ => rfl⟩
    · exact fp_mf I (by omega) sm hs hl (by omega) (by omega) h
   have fp1 : FP M T sm last (setN (nmI 102 last) (packN (pairsE sm)) T) := by
    refine ⟨fun k x h => ?_, getN_mem (getN_set_self _ _ _), fun p hp hlp => ?_⟩
    · rcases mem_setN h with h | h
      · cases h; exact .inl ⟨rfl, rfl⟩
      · exact .inr h
    · refine getN_mem ?_;rw [getN_set_ne _ (fun e => ?_)]
      · exact mem_getN up0 ((I.files _ _).2 (.inl ⟨p, hp, rfl, rfl⟩))
      · have := (nmI_inj (by decide) (by decide) hid (I.okS p hp).1 e).1;omega
   rcases put_fu (P := fun U => U = T ∨ FP M T sm last U) I.live I.has I.plain hr hz (Fnm.nm_tmp (by decide) _) hlT h8 (by omega) (D.mono fun _ h => .inl h) (.inr fp1) with ⟨h1, u1, h3, e1, h2⟩ | ⟨h1, h2⟩
   · exact absurd e1 hp
   · rw [if_pos (show (A.put M.dir (nmI 102 last) (pairsE sm)).2 ≠ 0 from h1)];exact .inr ⟨h1, h2.mono fin⟩
 obtain ⟨B, M', T', e, he, he2, hne, I', hdir, hent, hSl, u⟩ := I.foldsU upto hw hw2 Dt hp hf
 suffices key : (er (M.fold A upto).1 = B ∧ (M.fold A upto).2 = (M', e) ∧ ∃ T2, Has (er (M.fold A upto).1) M.dir T2 ∧ Dur (M.fold A upto).1 M.dir (fun U => U = T2)) ∨
   ((M.fold A upto).2.2 ≠ 0 ∧ Dur (M.fold A upto).1 M.dir (fun U => ∃ M', MF M' U ∧ M'.dir = M.dir ∧ ∀ k, M'.get k = M.get k)) by
  rcases key with ⟨k1, k2, T2, k3, k4⟩ | k
  · refine .inl ⟨_, M', T', e, Prod.ext rfl k2, he2, hne, by rw [k1]; exact I', hdir, hent, hSl, by rw [k1]; exact u, ?_⟩;have e3 : T2 = T' := Has.uniq I'.live.wf (by rw [← k1]; exact k3) (by rw [← hdir]; exact I'.has);rw [← e3];exact k4
  · exact .inr k
 have hfo : M.Fo.length ≤ 1 := by rcases I.fold with ⟨e, _⟩ | ⟨_, e⟩ <;> rw [e] <;> simp
 unfold Meta.fold at he ⊢
 dsimp only at he ⊢
 generalize hm : max upto (topT M.Fo) = m at he ⊢
 generalize hs : M.entries.filter (fun p => decide (p.1 ≤ m)) = sm at he ⊢
 by_cases hlast : topT sm < 0
 · rw [if_pos hlast] at he ⊢;cases he;exact .inl ⟨rfl, rfl, T, I.has, D⟩
 rw [if_neg hlast] at he ⊢
 by_cases hdone : topT M.Fo = topT sm ∧ M.Fo.length = 1 ∧ ∀ p ∈ M.S, topT sm < p.1
 · rw [if_pos hdone] at he ⊢;cases he;exact .inl ⟨rfl, rfl, T, I.has, D⟩
 rw [if_neg hdone] at he ⊢
 by_cases h42 : 16777216 < (pairsE sm).length
 · rw [if_pos h42] at he ⊢;cases he;exact .inl ⟨rfl, rfl, T, I.has, D⟩
 rw [if_neg h42] at he ⊢
 generalize hl : topT sm = last at he ⊢ hlast
 have hmem : ∀ p ∈ sm, p ∈ M.entries ∧ p.1 ≤ m := fun p hp => by rw [← hs] at hp; have := List.mem_filter.1 hp; exact ⟨this.1, by simpa using this.2⟩
 have hok : ∀ p ∈ sm, IdOk p.1 ∧ B8 p.2 ∧ p.2.length ≤ 5000 := fun p hp => I.okE p (hmem p hp).1
 have hwt : (pairsE sm).length ≤ 5 + w := by
  have h1 : wt sm ≤ w := by rw [← hs]; exact Nat.le_trans (wt_filter _ _) hw
  have h2 := len_wt sm;have := pairsE_wt (E := sm) (fun p hp => (hok p hp).2.2) (by omega);omega
 obtain ⟨pl, hpl, epl⟩ := top_mem (T := sm) (by rw [hl]; omega)
 rw [hl] at epl
 have hid : IdOk last := by rw [← epl]; exact (hok pl hpl).1
 have hr : right (nmI 102 last) = true := Fnm.nm_right (by decide) (by decide) _
 have hz : (nmI 102 last).size ≤ 28 := by unfold nmI; rw [Fnm.nm_size]; decide
 have hlT : T.length < 4096 := by have := I.few; omega
 have h8 : B8 (pairsE sm) := pairsE_B8 fun p hp => (hok p hp).2.1
 have up0 := has_up I.live I.has
 have fin : ∀ U, U = T ∨ FP M T sm last U → ∃ M', MF M' U ∧ M'.dir = M.dir ∧ ∀ k, M'.get k = M.get k := by
  rintro U (rfl | h)
  · exact ⟨M, I.mf, rfl, fun _ => rfl⟩
  · exact fp_mf I (by omega) sm hs hl (by omega) (by omega) h
 have fp1 : FP M T sm last (setN (nmI 102 last) (packN (pairsE sm)) T) := by
  refine ⟨fun k x h => ?_, getN_mem (getN_set_self _ _ _), fun p hp hlp => ?_⟩
  · rcases mem_setN h with h | h
    · cases h; exact .inl ⟨rfl, rfl⟩
    · exact .inr h
  · refine getN_mem ?_;rw [getN_set_ne _ (fun e => ?_)]
    · exact mem_getN up0 ((I.files _ _).2 (.inl ⟨p, hp, rfl, rfl⟩))
    · have := (nmI_inj (by decide) (by decide) hid (I.okS p hp).1 e).1;omega
 rcases put_fu (P := fun U => U = T ∨ FP M T sm last U) I.live I.has I.plain hr hz (Fnm.nm_tmp (by decide) _) hlT h8 (by omega) (D.mono fun _ h => .inl h) (.inr fp1) with ⟨h1, u1, h3, e1, h2⟩ | ⟨h1, h2⟩
 rotate_left
 · rw [if_pos (show (A.put M.dir (nmI 102 last) (pairsE sm)).2 ≠ 0 from h1)];exact .inr ⟨h1, h2.mono fin⟩
 have up1 := has_up u1.live u1.here
 rw [if_neg (show ¬ ((A.put M.dir (nmI 102 last) (pairsE sm)).2 ≠ 0) by rw [h1]; decide)]
 rw [if_neg (show ¬ (((er A).put M.dir (nmI 102 last) (pairsE sm)).2 ≠ 0) by rw [e1]; decide), ← h2] at he
 generalize (A.put M.dir (nmI 102 last) (pairsE sm)).1 = A1 at he h3 u1 ⊢
 have nF : ((setT last () M.Fo).map (·.1)).Nodup := (setT_up I.foUp).nodup
 have idF : ∀ n ∈ (setT last () M.Fo).map (·.1), IdOk n := fun n hn => by
  obtain ⟨p, hp, rfl⟩ := List.mem_map.1 hn
  rcases (mem_setT I.foUp).1 hp with rfl | ⟨_, hp⟩
  · exact hid
  · exact I.foOk p hp
 have idS : ∀ n ∈ M.S.map (·.1), IdOk n := fun n hn => by obtain ⟨p, hp, rfl⟩ := List.mem_map.1 hn; exact (I.okS p hp).1
 have nt1 : ∀ q ∈ setN (nmI 102 last) (packN (pairsE sm)) T, isTmp q.1 = false := fun q hq => by
  rcases mem_setN hq with rfl | hq
  · exact Fnm.nm_tmp (by decide) _
  · exact I.plain q hq
 have del : ∀ V nm, (nm ≠ nmI 102 last) → (∀ p ∈ M.S, last < p.1 → nm ≠ nmI 98 p.1) → FP M T sm last V → FP M T sm last (delN nm V) := fun V nm a1 a2 hV => by
  refine ⟨fun k x h => hV.sub k x (List.mem_filter.1 h).1, List.mem_filter.2 ⟨hV.top, ?_⟩, fun p hp hlp => List.mem_filter.2 ⟨hV.keep p hp hlp, ?_⟩⟩
  · simp only [Bool.not_eq_true', decide_eq_false_iff_not];exact Ne.symm a1
  · simp only [Bool.not_eq_true', decide_eq_false_iff_not];exact Ne.symm (a2 p hp hlp)
 have a1 : ∀ n ∈ M.S.map (·.1), (if (98 : Nat) = 98 then decide (n ≤ last) else decide (n ≠ last)) = true → ∃ y, getN (setN (nmI 102 last) (packN (pairsE sm)) T) (nmI 98 n) = some y := fun n hn hp => by
  obtain ⟨p, hp2, rfl⟩ := List.mem_map.1 hn;refine ⟨packN p.2, ?_⟩;rw [getN_set_ne _ (fun e => ?_)]
  · exact mem_getN up0 ((I.files _ _).2 (.inl ⟨p, hp2, rfl, rfl⟩))
  · have := (nmI_inj (by decide) (by decide) hid (I.okS p hp2).1 e).1;omega
 have a2 : ∀ n ∈ (setT last () M.Fo).map (·.1), (if (102 : Nat) = 98 then decide (n ≤ last) else decide (n ≠ last)) = true → ∃ y, getN (setN (nmI 102 last) (packN (pairsE sm)) T) (nmI 102 n) = some y := fun n hn hp => by
  obtain ⟨p, hp2, rfl⟩ := List.mem_map.1 hn;rw [if_neg (by decide)] at hp;simp only [decide_eq_true_eq] at hp
  rcases (mem_setT I.foUp).1 hp2 with rfl | ⟨_, hp3⟩
  · exact absurd rfl hp
  · refine ⟨packN (pairsE M.D), ?_⟩;rw [getN_set_ne _ (fun e => hp (nmI_inj (by decide) (by decide) hid (I.foOk p hp3) e).2.symm)];exact mem_getN up0 ((I.files _ _).2 (.inr ⟨p, hp3, rfl, rfl⟩))
 have a3 : ∀ V n, n ∈ M.S.map (·.1) → (if (98 : Nat) = 98 then decide (n ≤ last) else decide (n ≠ last)) = true → FP M T sm last V → FP M T sm last (delN (nmI 98 n) V) := fun V n hn hp hV => by
  rw [if_pos rfl] at hp;simp only [decide_eq_true_eq] at hp;refine del V _ (fun e => ?_) (fun p hp2 hlp e => ?_) hV
  · have := (nmI_inj (by decide) (by decide) (idS n hn) hid e).1;omega
  · have := (nmI_inj (by decide) (by decide) (idS n hn) (I.okS p hp2).1 e).2;omega
 have a4 : ∀ V n, n ∈ (setT last () M.Fo).map (·.1) → (if (102 : Nat) = 98 then decide (n ≤ last) else decide (n ≠ last)) = true → FP M T sm last V → FP M T sm last (delN (nmI 102 n) V) := fun V n hn hp hV => by
  rw [if_neg (by decide)] at hp;simp only [decide_eq_true_eq] at hp;refine del V _ (fun e => hp (nmI_inj (by decide) (by decide) (idF n hn) hid e).2) (fun p hp2 hlp e => ?_) hV;have := (nmI_inj (by decide) (by decide) (idF n hn) (I.okS p hp2).1 e).1;omega
 have R := rem_fz (M1 := { M with Fo := setT last () M.Fo, D := M.entries.filter fun p => decide (p.1 ≤ last) }) (P := FP M T sm last) u1.live u1.here nt1 (fun c n => if c = 98 then decide (n ≤ last) else decide (n ≠ last)) I.upS.nodup idS a1 nF idF a2 (h3.mono fun U hU => by rw [hU]; exact fp1) h3 a3 a4
 rcases R with ⟨q1, q2, q3⟩ | ⟨q1, q2⟩
 · refine .inl ⟨?_, ?_, q3⟩
   · rw [q1, he]
   · rw [q2, he]
 · exact .inr ⟨by rw [q1]; decide, q2.mono fun U hU => fin U (.inr hU)⟩
end
end AF
open Go Go.RowKit Go.MapKept
open AF (hexN IdOk Meta MInv Live Has Upd Dirc Dur setN getN UpN isTmp er Kept)
open Hex (digs)
open Crc (More)
open Frame (packN)
section
variable {id : Int} {D : Nat → Dl}
theorem addF_fu {w : Nat} (hw : w ≤ 16777000) : ∀ (l : List Nat) (A : AF.FS) (TO : Dirc) (fs : Prs), A.WF → Live (er A) → Has (er A) dO TO → (∀ q ∈ TO, isTmp q.1 = false) → (∀ p ∈ l, p < 4 ∧ D p ≠ [] ∧ (partB (D p)).length ≤ w) → TO.length + l.length < 4096 → Dur A dO (fun U => U = TO) →
  ∃ A' fs' e, addF id D l A fs = (A', fs', e) ∧ A'.WF ∧ Kept dO A A' ∧
    ((e = 0 ∧ fs' = fs ++ l.map (fun p => toldP id p (D p)) ∧ Upd 0 (l.length * (w + 8)) (l.length * 5) (er A) (er A') dO (laidF id D l TO) ∧ (∀ q ∈ laidF id D l TO, isTmp q.1 = false) ∧ Dur A' dO (fun U => U = laidF id D l TO)) ∨
     (e ≠ 0 ∧ Dur A' dO (fun U => ∃ k, U = laidF id D (l.take k) TO)))
 | [], A, TO, fs, W, L, H, ht, _, _, Du => ⟨A, fs, 0, rfl, W, Kept.refl _ _, .inl ⟨rfl, by rw [List.map_nil, List.append_nil], AF.Upd.refl L H |>.weak (Nat.le_refl _) (Nat.zero_le _) (Nat.zero_le _), ht, Du⟩⟩
 | p :: l, A, TO, fs, W, L, H, ht, hp, hl, Du => by
   obtain ⟨h4, hne, hb⟩ := hp p (List.mem_cons_self ..);rw [List.length_cons] at hl;have ht2 : ∀ q ∈ setN (nmR id p) (packN (partB (D p))) TO, isTmp q.1 = false := fun q hq => by
    rcases AF.mem_setN hq with rfl | hq
    · exact nmR_tmp id h4
    · exact ht q hq
   have hlen := AF.setN_length (nmR id p) (packN (partB (D p))) TO;have W2 : (A.put dO (nmR id p) (partB (D p))).1.WF := (AF.kept_put2 W _ _ (pairsN_B8 _)).2;have K2 : Kept dO A (A.put dO (nmR id p) (partB (D p))).1 := AF.kept_put W _ _ (pairsN_B8 _)
   rcases AF.put_fu (name := nmR id p) (x := partB (D p)) (P := fun U => U = TO ∨ U = setN (nmR id p) (packN (partB (D p))) TO) L H ht (nmR_right id h4) (by rw [nmR_size id h4]; decide) (nmR_tmp id h4) (by omega) (pairsN_B8 _) (by omega) (Du.mono fun _ h => .inl h) (.inr rfl) with ⟨h1, u1, D1, _, _⟩ | ⟨h1, D1⟩
   · obtain ⟨A', fs', e, he, W3, K3, h⟩ := addF_fu hw l (A.put dO (nmR id p) (partB (D p))).1 (setN (nmR id p) (packN (partB (D p))) TO) (fs ++ [toldP id p (D p)]) W2 u1.live u1.here ht2 (fun q hq => hp q (List.mem_cons_of_mem _ hq)) (by omega) D1;refine ⟨A', fs', e, ?_, W3, K2.trans K3, ?_⟩
     · show (if D p = [] then _ else _) = _;rw [if_neg hne, if_pos h1, he]
     · rcases h with ⟨a1, a2, a3, a4, a5⟩ | ⟨a1, a2⟩
       · refine .inl ⟨a1, ?_, (u1.trans a3).weak (Nat.le_refl _) (by rw [List.length_cons, Nat.succ_mul]; omega) (by rw [List.length_cons]; omega), a4, a5⟩;rw [a2, List.map_cons, List.append_assoc]
         rfl
       · exact .inr ⟨a1, a2.mono fun U ⟨k, hk⟩ => ⟨k + 1, hk⟩⟩
   · refine ⟨_, fs, _, ?_, W2, K2, .inr ⟨h1, D1.mono ?_⟩⟩
     · show (if D p = [] then _ else _) = _;rw [if_neg hne, if_neg h1]
     · rintro U (h | h)
       · exact ⟨0, h⟩
       · exact ⟨1, h⟩
end
open AF (hexN IdOk Meta MInv MF Live Has Upd Dirc Dur setN getN UpN isTmp er Kept)
structure GoodU (n : Nat) (M : Meta) (U V : Dirc) (bs : List (List (List Vl))) : Prop where
 mf : MF M U
 dir : M.dir = dM
 noTmp : ∀ q ∈ V, isTmp q.1 = false
 few : V.length ≤ 4 * bs.length + 4
 names : ∀ q ∈ V, ∃ (id p : Nat), id ≤ bs.length ∧ p < n ∧ q.1 = nmR (id : Int) p
 keys : ∀ k : Int, M.get k = none ↔ ¬ (0 ≤ k ∧ k < (bs.length : Int))
 each : ∀ (id : Nat) rs, bs[id]? = some rs → BatchIn M V id rs
theorem SI.good {n : Nat} {A : AF.FS} {M : Meta} {T TO : Dirc} {bs : List (List (List Vl))} (S : SI n A M T TO bs) : GoodU n M T TO bs :=
 ⟨S.inv.mf, S.dir, S.noTmp, by have := S.few; omega, fun q hq => by obtain ⟨i, p, a, b, c⟩ := S.names q hq; exact ⟨i, p, by omega, b, c⟩, S.keys, S.each⟩
theorem GoodU.like {n : Nat} {M M' : Meta} {U U' V : Dirc} {bs : List (List (List Vl))} (G : GoodU n M U V bs) (m : MF M' U') (hd : M'.dir = M.dir) (hg : ∀ k, M'.get k = M.get k) : GoodU n M' U' V bs :=
 ⟨m, hd.trans G.dir, G.noTmp, G.few, G.names, fun k => by rw [hg]; exact G.keys k, fun id rs h => by
  obtain ⟨h1, fs, ds, h2, h3⟩ := G.each id rs h;exact ⟨h1, fs, ds, (hg _).trans h2, h3⟩⟩
theorem batch_oldL {rs : List (List Vl)} {D : Nat → Dl} {M M' : Meta} {TO : Dirc} {id i : Nat} {l : List Nat} (hl4 : ∀ p ∈ l, p < 4) (hln : l.Nodup) (hu : UpN TO) (hid : id ≤ 1000000) (hi : i < id) (hg : M'.get (i : Int) = M.get (i : Int)) (b : BatchIn M TO i rs) :
  BatchIn M' (laidF (id : Int) D l TO) i rs := by
 obtain ⟨hr, fs, ds, h1, h2, h3, h4⟩ := b
 refine ⟨hr, fs, ds, hg.trans h1, h2, h3, fun k f d hf hd => ?_⟩
 obtain ⟨g1, g2, g3, p, hp, g4⟩ := h4 k f d hf hd
 refine ⟨(laidF_mem _ _ hu hl4 hln (idOk_nat hid) _ _).2 (.inr ⟨g1, fun q hq e => ?_⟩), g2, g3, p, hp, g4⟩
 rw [g4] at e
 have := (nmR_inj hp (hl4 q hq) (idOk_nat (by omega)) (idOk_nat hid) e).1
 omega
theorem metaPut_kept {A : AF.FS} (W : A.WF) (M : Meta) (id : Int) {b : List Nat} (h8 : B8 b) : Kept M.dir A (M.put A id b).1 ∧ (M.put A id b).1.WF := by
 unfold AF.Meta.put
 split
 · exact ⟨Kept.refl _ _, W⟩
 split
 · split <;> exact ⟨Kept.refl _ _, W⟩
 · split
   · exact AF.kept_put2 W _ _ h8
   · exact AF.kept_put2 W _ _ h8
section
variable {n : Nat} {A : AF.FS} {M : Meta} {T TO : Dirc} {bs : List (List (List Vl))}
theorem SI.add_fu {rs : List (List Vl)} {D : Nat → Dl} (S : SI n (er A) M T TO bs) (W : A.WF) (DM : Dur A dM (fun U => U = T)) (DO : Dur A dO (fun U => U = TO)) (hD : Dealt n rs D) (hr : RowsOk rs) (hb : bs.length ≤ 100) (hS : M.S.length < 4000) :
  (∃ A' M' T' TO', addM (bs.length : Int) D A M = (A', M', 0) ∧ SI n (er A') M' T' TO' (bs ++ [rs]) ∧ A'.steps ≤ A.steps + 30 ∧ M'.S.length ≤ M.S.length + 1 ∧ Dur A' dM (fun U => U = T') ∧ Dur A' dO (fun U => U = TO')) ∨
  ((addM (bs.length : Int) D A M).2.2 ≠ 0 ∧ ∃ PM PO, Dur (addM (bs.length : Int) D A M).1 dM PM ∧ Dur (addM (bs.length : Int) D A M).1 dO PO ∧ ∀ U V, PM U → PO V → ∃ M' bs', GoodU n M' U V bs' ∧ (bs' = bs ∨ bs' = bs ++ [rs])) := by
 have hal := act_len D
 have hfew := S.few
 have hup := AF.has_up S.inv.live S.out
 have hwD : ∀ p, p < 4 → (partB (D p)).length ≤ 170000 := fun p hp => part_size hD hr hp
 obtain ⟨A1, fs', e, e1, W1, K1, h⟩ := addF_fu (w := 170000) (by omega) (id := (bs.length : Int)) (D := D) (act D four) A TO [] W S.inv.live S.out S.noTmp (fun p hp => ⟨(act_lt hD hp).1, (act_lt hD hp).2.2, hwD p (act_lt hD hp).1⟩) (by omega) DO
 have eF : addF (bs.length : Int) D four A [] = (A1, fs', e) := by rw [addF_skip]; exact e1
 have DM1 : Dur A1 dM (fun U => U = T) := K1.dur W dMO DM
 have lnames : ∀ l : List Nat, (∀ p ∈ l, p ∈ act D four) → l.Nodup → ∀ q ∈ laidF (bs.length : Int) D l TO, ∃ (id p : Nat), id ≤ bs.length ∧ p < n ∧ q.1 = nmR (id : Int) p := fun l hl hn q hq => by
  rcases (laidF_mem _ _ hup (fun q hq => (act_lt hD (hl q hq)).1) hn (idOk_nat (by omega)) q.1 q.2).1 hq with ⟨p, hp, e, _⟩ | ⟨hq, _⟩
  · exact ⟨bs.length, p, Nat.le_refl _, (act_lt hD (hl p hp)).2.1, e⟩
  · obtain ⟨id, p, a, b, c⟩ := S.names q hq;exact ⟨id, p, by omega, b, c⟩
 have ltmp : ∀ l : List Nat, (∀ p ∈ l, p ∈ act D four) → l.Nodup → ∀ q ∈ laidF (bs.length : Int) D l TO, isTmp q.1 = false := fun l hl hn q hq => by
  rcases (laidF_mem _ _ hup (fun q hq => (act_lt hD (hl q hq)).1) hn (idOk_nat (by omega)) q.1 q.2).1 hq with ⟨p, hp, e, _⟩ | ⟨hq, _⟩
  · rw [e]; exact nmR_tmp _ (act_lt hD (hl p hp)).1
  · exact S.noTmp q hq
 have goodL : ∀ l : List Nat, (∀ p ∈ l, p ∈ act D four) → l.Nodup → l.length ≤ 4 → ∀ M' U, MF M' U → M'.dir = M.dir → (∀ k, M'.get k = M.get k) → GoodU n M' U (laidF (bs.length : Int) D l TO) bs := fun l hl hn hl4 M' U m hd hg =>
  ⟨m, hd.trans S.dir, ltmp l hl hn, by have := laidF_len (bs.length : Int) D l TO; omega, lnames l hl hn, fun k => by rw [hg]; exact S.keys k, fun i r hir =>
   batch_oldL (fun q hq => (act_lt hD (hl q hq)).1) hn hup (by omega) (List.getElem?_eq_some_iff.1 hir).1 (hg _) (S.each i r hir)⟩
 unfold addM
 rw [eF]
 dsimp only
 rcases h with ⟨rfl, h2, u1, ht1, DO1⟩ | ⟨h1, h2⟩
 rotate_left
 · rw [if_neg h1];refine .inr ⟨h1, _, _, DM1, h2, ?_⟩;rintro U V rfl ⟨k, rfl⟩;exact ⟨M, bs, goodL _ (fun p hp => List.mem_of_mem_take hp) ((four_nodup D).sublist (List.take_sublist ..)) (by rw [List.length_take]; omega) M U S.inv.mf rfl (fun _ => rfl), .inl rfl⟩
 rw [if_pos rfl]
 rw [List.nil_append] at h2
 subst h2
 have hms := man_size (told_small hD (bs.length : Int))
 have hg : M.get (bs.length : Int) = none := (S.keys _).2 (by omega)
 have I1 : MInv (er A1) M T := MInv.other2 S.inv u1 (by rw [S.dir]; exact dMO)
 have hget := AF.get_putM (bs := pairsN ((act D four).map fun p => toldP (bs.length : Int) p (D p))) hg
 have hfull : ∀ M', (∀ k, M'.get k = if k = (bs.length : Int) then some (pairsN ((act D four).map fun p => toldP (bs.length : Int) p (D p))) else M.get k) → (∀ k : Int, M'.get k = none ↔ ¬ (0 ≤ k ∧ k < ((bs ++ [rs]).length : Int))) ∧ ∀ (id : Nat) r, (bs ++ [rs])[id]? = some r → BatchIn M' (laidF (bs.length : Int) D (act D four) TO) id r := fun M' hM' => by
  refine ⟨fun k => ?_, fun i r hir => ?_⟩
  · rw [hM', List.length_append, List.length_singleton];by_cases hk : k = (bs.length : Int)
    · rw [if_pos hk];simp;omega
    · rw [if_neg hk, S.keys];omega
  · by_cases hi : i < bs.length
    · rw [List.getElem?_append_left hi] at hir;exact batch_old hD hup (by omega) hi (by rw [hM', if_neg (by omega)]) (S.each i r hir)
    · have := (List.getElem?_eq_some_iff.1 hir).1;rw [List.length_append, List.length_singleton] at this;obtain rfl : i = bs.length := by omega
      rw [List.getElem?_append_right (by omega), Nat.sub_self] at hir;cases hir;exact batch_new hD hr hup (by omega) (by rw [hM', if_pos rfl])
 have hlen := laidF_len (bs.length : Int) D (act D four) TO
 obtain ⟨K2, W2⟩ := metaPut_kept W1 M (bs.length : Int) (b := pairsN ((act D four).map fun p => toldP (bs.length : Int) p (D p))) (pairsN_B8 _)
 have DO2 := K2.dur W1 (by rw [S.dir]; exact fun e => dMO e.symm) DO1
 rcases AF.put_fuM I1 (by rw [S.dir]; exact DM1) (idOk_nat (i := bs.length) (by omega)) hg (pairsN_B8 ((act D four).map fun p => toldP (bs.length : Int) p (D p))) (by omega) hS with ⟨A2, T2, e2, I2, u2, D2⟩ | ⟨e2, D2⟩
 · rw [e2] at DO2 ⊢;obtain ⟨k1, k2⟩ := hfull _ hget;have u1s : A1.steps ≤ A.steps + (act D four).length * 5 := u1.steps;have u2s : A2.steps ≤ A1.steps + 5 := u2.steps;refine .inl ⟨A2, _, T2, laidF (bs.length : Int) D (act D four) TO, rfl, ⟨I2, S.dir, u2.els _ _ (by rw [S.dir]; exact fun e => dMO e.symm) u1.here, ht1, ?_, fun q hq => ?_, k1, k2⟩, by omega, (AF.setT_length _ _ _).1, by rw [← S.dir]; exact D2, DO2⟩
   · rw [List.length_append, List.length_singleton];omega
   · rw [List.length_append, List.length_singleton];obtain ⟨id, p, a, b, c⟩ := lnames _ (fun p hp => hp) (four_nodup D) q hq;exact ⟨id, p, by omega, b, c⟩
 · refine .inr ⟨e2, _, _, by rw [S.dir] at D2; exact D2, DO2, ?_⟩;rintro U V ⟨M', m1, m2, m3⟩ rfl
   rcases m3 with m3 | m3
   · exact ⟨M', bs, goodL _ (fun p hp => hp) (four_nodup D) hal M' U m1 (m2.trans S.dir.symm) m3, .inl rfl⟩
   · obtain ⟨k1, k2⟩ := hfull M' m3;refine ⟨M', bs ++ [rs], ⟨m1, m2, ht1, ?_, fun q hq => ?_, k1, k2⟩, .inr rfl⟩
     · rw [List.length_append, List.length_singleton];omega
     · rw [List.length_append, List.length_singleton];obtain ⟨id, p, a, b, c⟩ := lnames _ (fun p hp => hp) (four_nodup D) q hq;exact ⟨id, p, by omega, b, c⟩
theorem SI.fold_fu (S : SI n (er A) M T TO bs) (W : A.WF) (DM : Dur A dM (fun U => U = T)) (upto : Int) {w : Nat} (hw : AF.wt M.entries ≤ w) (hw2 : w ≤ 10000000) (hf : M.S.length < 4000) :
  (∃ A' M' T' e, M.fold A upto = (A', M', e) ∧ (e = 0 ∨ e = 91) ∧ (e = 91 → ∀ p ∈ M.entries, ¬ p.1 ≤ upto) ∧ SI n (er A') M' T' TO bs ∧ M'.entries = M.entries ∧ M'.S.length ≤ M.S.length ∧ A'.steps ≤ A.steps + (M.S.length + 8) ∧ Dur A' dM (fun U => U = T')) ∨
  ((M.fold A upto).2.2 ≠ 0 ∧ Dur (M.fold A upto).1 dM (fun U => ∃ M', GoodU n M' U TO bs)) := by
 rcases AF.fold_fu S.inv (by rw [S.dir]; exact DM) upto hw hw2 hf with ⟨A', M', T', e, h1, h2, h3, h4, h5, h6, h7, u, h8⟩ | ⟨h1, h2⟩
 · exact .inl ⟨A', M', T', e, h1, h2, h3, S.folds h4 h5 h6 u, h6, h7, u.steps, by rw [S.dir] at h8; exact h8⟩
 · refine .inr ⟨h1, ?_⟩;rw [S.dir] at h2;exact h2.mono fun U ⟨M', m1, m2, m3⟩ => ⟨M', S.good.like m1 (m2.trans S.dir.symm) m3⟩
end
open AF (hexN IdOk Meta MInv MF Live Has Upd Dirc Dur setN getN delN UpN isTmp er Kept)
theorem goG_kept {α : Type} (dir : ByteArray) (c : Nat) (p : Int → Bool) : ∀ (l : List Int) (A : AF.FS) (T : List (Int × α)) (s : Bool), A.WF → Kept dir A (AF.goG dir c p l A T s).1 ∧ (AF.goG dir c p l A T s).1.WF
 | [], A, T, s, W => ⟨Kept.refl _ _, W⟩
 | n :: l, A, T, s, W => by
   unfold AF.goG;split
   · split
     · obtain ⟨h1, h2⟩ := goG_kept dir c p l (A.remove dir (AF.nmI c n)).1 (delT n T) true (W.remove _ _);exact ⟨(AF.kept_remove W _ _).trans h1, h2⟩
     · exact ⟨AF.kept_remove W _ _, W.remove _ _⟩
   · exact goG_kept dir c p l A T s W
theorem metaRemove_kept {A : AF.FS} (W : A.WF) (M : Meta) (p : Nat → Int → Bool) : Kept M.dir A (M.remove A p).1 ∧ (M.remove A p).1.WF := by
 obtain ⟨h1, h2⟩ := goG_kept M.dir 98 (p 98) (M.S.map (·.1)) A M.S false W
 unfold AF.Meta.remove
 dsimp only
 generalize AF.goG M.dir 98 (p 98) (M.S.map (·.1)) A M.S false = r at h1 h2 ⊢
 obtain ⟨k1, k2⟩ := goG_kept M.dir 102 (p 102) (M.Fo.map (·.1)) r.1 M.Fo r.2.2.1 h2
 split
 · exact ⟨h1, h2⟩
 generalize AF.goG M.dir 102 (p 102) (M.Fo.map (·.1)) r.1 M.Fo r.2.2.1 = q at k1 k2 ⊢
 split
 · exact ⟨h1.trans k1, k2⟩
 split
 · exact ⟨(h1.trans k1).trans (AF.kept_syncDir k2 _), k2.syncDir _⟩
 · exact ⟨h1.trans k1, k2⟩
theorem metaFold_kept {A : AF.FS} (W : A.WF) (M : Meta) (upto : Int) (h8 : ∀ p ∈ M.entries, B8 p.2) : Kept M.dir A (M.fold A upto).1 ∧ (M.fold A upto).1.WF := by
 unfold AF.Meta.fold
 dsimp only
 split
 · exact ⟨Kept.refl _ _, W⟩
 split
 · exact ⟨Kept.refl _ _, W⟩
 split
 · exact ⟨Kept.refl _ _, W⟩
 have hb : B8 (AF.pairsE (M.entries.filter fun p => decide (p.1 ≤ max upto (AF.topT M.Fo)))) := AF.pairsE_B8 fun p hp => h8 p (List.mem_filter.1 hp).1
 obtain ⟨h1, h2⟩ := AF.kept_put2 W M.dir (AF.nmI 102 (AF.topT (M.entries.filter fun p => decide (p.1 ≤ max upto (AF.topT M.Fo))))) hb
 split
 · exact ⟨h1, h2⟩
 · obtain ⟨k1, k2⟩ := metaRemove_kept h2 { M with Fo := setT (AF.topT (M.entries.filter fun p => decide (p.1 ≤ max upto (AF.topT M.Fo)))) () M.Fo, D := M.entries.filter fun p => decide (p.1 ≤ AF.topT (M.entries.filter fun p => decide (p.1 ≤ max upto (AF.topT M.Fo)))) } (fun c n => if c = 98 then decide (n ≤ AF.topT (M.entries.filter fun p => decide (p.1 ≤ max upto (AF.topT M.Fo)))) else decide (n ≠ AF.topT (M.entries.filter fun p => decide (p.1 ≤ max upto (AF.topT M.Fo)))));exact ⟨h1.trans k1, k2⟩
def goneN (N : Nat) (k : ByteArray) : Bool := match batchN k with
 | none => false
 | some m => !decide (m < N)
theorem sweepGo_cons (N : Nat) (k : ByteArray) (l : List ByteArray) (A : AF.FS) (s : Bool) : sweepGo N (k :: l) A s = if goneN N k = true then (if (A.remove dO k).2 = 0 then sweepGo N l (A.remove dO k).1 true else ((A.remove dO k).1, s, (A.remove dO k).2)) else sweepGo N l A s := by
 have e0 : sweepGo N (k :: l) A s = match batchN k with
  | none => sweepGo N l A s
  | some m => if m < N then sweepGo N l A s else if (A.remove dO k).2 = 0 then sweepGo N l (A.remove dO k).1 true else ((A.remove dO k).1, s, (A.remove dO k).2) := rfl
 rw [e0]
 have e1 : goneN N k = match batchN k with | none => false | some m => !decide (m < N) := rfl
 cases hb : batchN k with
 | none =>
   rw [hb] at e1;rw [if_neg (show ¬ goneN N k = true by rw [e1]; simp)]
 | some m =>
   rw [hb] at e1;dsimp only at e1 ⊢;by_cases h : m < N
   · rw [if_pos h, if_neg (show ¬ goneN N k = true by rw [e1]; simp [h])]
   · rw [if_neg h, if_pos (show goneN N k = true by rw [e1]; simp [h])]
theorem sweepGo_live (N : Nat) : ∀ (ks : List ByteArray) (A : AF.FS) (s : Bool) (V : Dirc), Live A → Has A dO V → ks.Nodup → (∀ k ∈ ks, ∃ x, getN V k = some x) →
  ∃ A' s', sweepGo N ks A s = (A', s', 0) ∧ Upd 0 0 ks.length A A' dO (V.filter fun q => !(ks.any fun k => goneN N k && decide (q.1 = k)))
 | [], A, s, V, L, H, _, _ => by
   refine ⟨A, s, rfl, ?_⟩;rw [AF.filter_id (by simp)];exact AF.Upd.refl L H
 | k :: l, A, s, V, L, H, hn, hg => by
   have hn2 := List.nodup_cons.1 hn;rw [sweepGo_cons];by_cases hk : goneN N k = true
   · rw [if_pos hk];obtain ⟨x, hx⟩ := hg k (List.mem_cons_self ..);obtain ⟨e, u⟩ := AF.remove_ok L H hx;rw [if_pos e];obtain ⟨A', s', e2, u2⟩ := sweepGo_live N l (A.remove dO k).1 true (delN k V) u.live u.here hn2.2 fun m hm => by
      obtain ⟨y, hy⟩ := hg m (List.mem_cons_of_mem _ hm);refine ⟨y, ?_⟩;rw [AF.getN_del_ne _ V]
      · exact hy
      · rintro rfl;exact hn2.1 hm
     refine ⟨A', s', e2, ?_⟩;have e3 : (delN k V).filter (fun q => !(l.any fun m => goneN N m && decide (q.1 = m))) = V.filter fun q => !((k :: l).any fun m => goneN N m && decide (q.1 = m)) := by
      unfold delN;rw [List.filter_filter];apply List.filter_congr;intro q _;rw [List.any_cons, hk, Bool.true_and, Bool.not_or, Bool.and_comm]
     rw [← e3];exact (u.trans u2).weak (Nat.le_refl _) (Nat.le_refl _) (by rw [List.length_cons]; omega)
   · rw [if_neg hk];obtain ⟨A', s', e2, u2⟩ := sweepGo_live N l A s V L H hn2.2 fun m hm => hg m (List.mem_cons_of_mem _ hm);refine ⟨A', s', e2, ?_⟩;have e3 : V.filter (fun q => !(l.any fun m => goneN N m && decide (q.1 = m))) = V.filter fun q => !((k :: l).any fun m => goneN N m && decide (q.1 = m)) := by
      apply List.filter_congr;intro q _;rw [List.any_cons, (show goneN N k = false from by simpa using hk), Bool.false_and, Bool.false_or]
     rw [← e3];exact u2.weak (Nat.le_refl _) (Nat.le_refl _) (by rw [List.length_cons]; omega)
theorem sweep_live {A : AF.FS} {V : Dirc} (N : Nat) (L : Live A) (H : Has A dO V) : ∃ B, sweepF N (V.map (·.1)) A = (B, 0) ∧ Upd 0 0 (V.length + 1) A B dO (V.filter fun q => !goneN N q.1) := by
 have hup := AF.has_up L H
 obtain ⟨A', s', e, u⟩ := sweepGo_live N (V.map (·.1)) A false V L H hup.once fun k hk => by
  obtain ⟨p, hp, rfl⟩ := List.mem_map.1 hk;exact ⟨p.2, AF.mem_getN hup hp⟩
 have e3 : V.filter (fun q => !((V.map (·.1)).any fun k => goneN N k && decide (q.1 = k))) = V.filter fun q => !goneN N q.1 := by
  apply List.filter_congr;intro q hq;congr 1
  cases hg : goneN N q.1 with
  | false =>
    rw [List.any_eq_false];intro k hk h;simp only [Bool.and_eq_true, decide_eq_true_eq] at h;rw [← h.2, hg] at h;exact absurd h.1 (by decide)
  | true =>
    rw [List.any_eq_true];exact ⟨q.1, List.mem_map.2 ⟨q, hq, rfl⟩, by rw [hg]; simp⟩
 rw [e3, List.length_map] at u
 unfold sweepF
 rw [e, if_neg (by simp)]
 dsimp only
 by_cases hs : s' = true
 · rw [if_pos hs];obtain ⟨e4, u4⟩ := AF.syncDir_ok u.live u.here;exact ⟨(A'.syncDir dO).1, Prod.ext rfl e4, (u.trans u4).weak (Nat.le_refl _) (Nat.le_refl _) (Nat.le_refl _)⟩
 · rw [if_neg hs];exact ⟨A', rfl, u.weak (Nat.le_refl _) (Nat.le_refl _) (by omega)⟩
theorem gone_nm {N id p : Nat} (hp : p < 4) (h : id ≤ 1000000) : goneN N (nmR (id : Int) p) = !decide (id < N) := by
 unfold goneN
 rw [batchN_nmR hp (idOk_nat h)]
 show (!decide (natOf (id : Int) < N)) = _
 rw [show natOf (id : Int) = id from natOf_nat (by omega)]
theorem GoodU.swept {n : Nat} {M : Meta} {U V : Dirc} {bs : List (List (List Vl))} (G : GoodU n M U V bs) (hn : n ≤ 4) (hb : bs.length ≤ 100) :
  GoodU n M U (V.filter fun q => !goneN bs.length q.1) bs ∧ ∀ q ∈ V.filter (fun q => !goneN bs.length q.1), ∃ (id p : Nat), id < bs.length ∧ p < n ∧ q.1 = nmR (id : Int) p := by
 have hnm : ∀ q ∈ V.filter (fun q => !goneN bs.length q.1), ∃ (id p : Nat), id < bs.length ∧ p < n ∧ q.1 = nmR (id : Int) p := fun q hq => by
  obtain ⟨h1, h2⟩ := List.mem_filter.1 hq;obtain ⟨id, p, a, b, c⟩ := G.names q h1;rw [c, gone_nm (by omega) (by omega)] at h2;exact ⟨id, p, by simpa using h2, b, c⟩
 refine ⟨⟨G.mf, G.dir, fun q hq => G.noTmp q (List.mem_filter.1 hq).1, Nat.le_trans (List.length_filter_le _ _) G.few, fun q hq => ?_, G.keys, fun id rs h => ?_⟩, hnm⟩
 · obtain ⟨id, p, a, b, c⟩ := hnm q hq;exact ⟨id, p, by omega, b, c⟩
 · obtain ⟨h1, fs, ds, h2, h3, h4, h5⟩ := G.each id rs h;have hid := (List.getElem?_eq_some_iff.1 h).1;refine ⟨h1, fs, ds, h2, h3, h4, fun k f d hf hd => ?_⟩;obtain ⟨g1, g2, g3, p, hp, g4⟩ := h5 k f d hf hd;refine ⟨List.mem_filter.2 ⟨g1, ?_⟩, g2, g3, p, hp, g4⟩;show (!goneN bs.length f.1) = true;rw [g4, gone_nm hp (by omega), decide_eq_true hid]
   rfl
open AF (hexN IdOk Meta MInv MF Live Has Upd Dirc Dur setN getN delN UpN isTmp er Kept unT Ent)
section
variable {F : List HProp} {h : Heap} {fsb n : Nat} {A : AF.FS} {M : Meta} {T TO : Dirc} {bs : List (List (List Vl))}
theorem GoodU.ent {U V : Dirc} (G : GoodU n M U V bs) : M.entries = entN M bs.length := ent_of G.mf.upE G.mf.getE G.keys
theorem GoodU.vals {U V : Dirc} (G : GoodU n M U V bs) : ∀ p ∈ entN M bs.length, B8 p.2 ∧ p.2.length ≤ 5000 := fun p hp => by
 rw [← G.ent] at hp
 exact (G.mf.okE p hp).2
set_option maxHeartbeats 1000000 in
theorem live_openK (hn : 1 ≤ n ∧ n ≤ 4) (hb : bs.length ≤ 100) (G : GoodU n M (unT T) (unT TO) bs) (L : Live A) (Hm : Has A dM T) (Ho : Has A dO TO) (hlm : T.length ≤ 5000) (hlo : TO.length ≤ 5000) (hs : A.steps + 60000 < 1099511627776) (Hs : sat (fsP fsb A :: F) h) :
  CallsH Tryz.prog 10 [ptrV fsb, .int .i64 (n : Int)] h fun v h' => ∃ b lb B V, v = .tuple #[ptrV b, .int .i64 0] ∧ Live B ∧ Has B dM (unT T) ∧ Has B dO V ∧ GoodU n M (unT T) V bs ∧ (∀ q ∈ V, ∃ (id p : Nat), id < bs.length ∧ p < n ∧ q.1 = nmR (id : Int) p) ∧ B.steps ≤ A.steps + 20010 ∧
   sat (sinkB b fsb lb (n : Int) (bs.length : Int) :: logM lb fsb M :: fsP fsb B :: F) h' := by
 obtain ⟨B1, e1, u1⟩ := AF.prep_tmp L Hm
 have Ho1 := u1.els dO TO (fun e => dMO e.symm) Ho
 obtain ⟨B2, e2, u2⟩ := AF.prep_tmp u1.live Ho1
 obtain ⟨B3, e3, u3⟩ := sweep_live bs.length u2.live u2.here
 obtain ⟨G2, hnm⟩ := G.swept hn.2 hb
 have s1 := u1.steps
 have s2 := u2.steps
 have s3 := u3.steps
 have hl2 : (unT TO).length ≤ TO.length := List.length_filter_le _ _
 have hHm : Has B1 M.dir (unT T) := by rw [G.dir]; exact u1.here
 have e4 : (M.S.map fun p : Int × List Nat => (p.1, ([] : List Nat))).map (·.1) = M.S.map (·.1) := by rw [List.map_map]; rfl
 refine (F10_spec (n := n) (N := bs.length) (M := M) (B := B1) (C := B2) (ks := (unT TO).map (·.1)) hn (by omega) G.ent (fun p hp => by have := (G.vals p hp).2; omega) (fun X h1 K => ?_) u1.live.wf (by omega) e2 (by rw [e3]) Hs).mono ?_
 · have hr := G.mf.reads u1.live hHm;rw [G.dir] at hr;refine (F41_spec (dir := dM) (B := B1) (ks := (unT T).map (·.1)) (S0 := M.S.map fun p => (p.1, [])) (S := M.S) (D := M.D) (Fo := M.Fo) L.wf (by omega) (by decide) e1 G.mf.scan (by rw [e4]; exact hr) ?_ K).mono ?_
   · rcases G.mf.fold with ⟨e1, e2⟩ | ⟨h1, e1, hf⟩
     · exact .inl ⟨by rw [e1]; decide, e2⟩
     · have hg := G.mf.getF u1.live hHm hf;rw [G.dir] at hg;exact .inr ⟨unfold_ok, e1, G.mf.upD, h1, fun p hp => ⟨(G.mf.okD p hp).1, (G.mf.okD p hp).2.1⟩, Nat.le_trans G.mf.lenD (by decide), hg⟩
   · rintro v h' ⟨lb, rfl, _, _, K'⟩;refine ⟨lb, rfl, ?_⟩;have eM : (⟨dM, M.S, M.Fo, M.D⟩ : Meta) = M := by rw [← G.dir]
     rw [eM] at K';exact K'
 · rintro v h' ⟨b, lb, rfl, _, _, K'⟩;have e5 : (sweepF bs.length ((unT TO).map (·.1)) B2).1 = B3 := by rw [e3]
   rw [e5] at K';exact ⟨b, lb, B3, _, rfl, u3.live, u3.els _ _ dMO (u2.els _ _ dMO u1.here), u3.here, G2, hnm, by omega, K'⟩
end
end Go.Proofs.YtibdiikcigokjaaGreatDoor
