/- What a crash may leave of a directory: each of the states since it was last made safe, the files that count being safe. -/
import Derived.Test.YtibdiikcigokjaaGreatDoorKsLv2
import Derived.Test.YtibdiikcigokjaaGreatDoorKsMt6
namespace Go.Proofs.YtibdiikcigokjaaGreatDoor
open Go Go.RowKit
set_option linter.unusedVariables false
set_option linter.unusedSimpArgs false
namespace AF
open Frame (packN)
def unT (T : Dirc) : Dirc := T.filter fun p => !isTmp p.1
def stat (d : Dir) (k : Nat) : Names := play d.base (d.pend.take k)
def safeX (fs : List File) (x : Nat) : Prop := (fs.getD x default).safe = (fs.getD x default).b.length
structure DurD (fs : List File) (d : Dir) (P : Dirc → Prop) : Prop where
 safe : ∀ k, k ≤ d.pend.length → ∀ p ∈ stat d k, isTmp p.1 = true ∨ safeX fs p.2
 good : ∀ k, k ≤ d.pend.length → P (unT (viewD fs (stat d k)))
 apart : ∀ p ∈ d.now, isTmp p.1 = true → ∀ k, k ≤ d.pend.length → ∀ q ∈ stat d k, q.2 = p.2 → isTmp q.1 = true
section
variable {fs gs : List File} {d : Dir} {P Q : Dirc → Prop} {n s : Nat}
theorem stat_last (W : d.WF n s) : stat d d.pend.length = d.now := by unfold stat; rw [List.take_length, W.now]
theorem stat_did (W : d.WF n s) (o : Op) {k : Nat} (hk : k ≤ (d.did o).pend.length) : (k ≤ d.pend.length ∧ stat (d.did o) k = stat d k) ∨ (k = d.pend.length + 1 ∧ stat (d.did o) k = does d.now o) := by
 have hl : (d.did o).pend.length = d.pend.length + 1 := by simp [Dir.did]
 rcases Nat.lt_or_ge k (d.pend.length + 1) with h | h
 · refine .inl ⟨by omega, ?_⟩;unfold stat Dir.did;simp only;rw [List.take_append_of_le_length (by omega)]
 · have hk2 : k = d.pend.length + 1 := by omega
   refine .inr ⟨hk2, ?_⟩;unfold stat;rw [hk2, ← hl, List.take_length];show play d.base (d.pend ++ [o]) = _;rw [play_snoc, W.now]
theorem stat_ok (W : d.WF n s) (k : Nat) : Ok n (stat d k) := (W.runs.take k).last
theorem stat_speaks (W : d.WF n s) {k : Nat} {p : ByteArray × Nat} (hp : p ∈ stat d k) : p.2 ∈ d.speaks := by
 have h := play_files (W.runs.take k) (List.mem_map.2 ⟨p, hp, rfl⟩)
 unfold Dir.speaks
 rcases List.mem_append.1 h with h | h
 · exact List.mem_append.2 (.inl h)
 · refine List.mem_append.2 (.inr ?_);obtain ⟨o, ho, hx⟩ := List.mem_flatMap.1 h;exact List.mem_flatMap.2 ⟨o, List.mem_of_mem_take ho, hx⟩
theorem DurD.mono (D : DurD fs d P) (h : ∀ T, P T → Q T) : DurD fs d Q := ⟨D.safe, fun k hk => h _ (D.good k hk), D.apart⟩
theorem unT_congr {l : Names} (h : ∀ p ∈ l, isTmp p.1 = false → (gs.getD p.2 default).b = (fs.getD p.2 default).b) : unT (viewD gs l) = unT (viewD fs l) := by
 unfold unT viewD
 rw [List.filter_map, List.filter_map]
 refine List.map_congr_left fun p hp => ?_
 have := List.mem_filter.1 hp
 rw [h p this.1 (by simpa using this.2)]
theorem DurD.files (D : DurD fs d P) (h : ∀ k, k ≤ d.pend.length → ∀ p ∈ stat d k, isTmp p.1 = true ∨ gs.getD p.2 default = fs.getD p.2 default) : DurD gs d P := by
 refine ⟨fun k hk p hp => ?_, fun k hk => ?_, D.apart⟩
 · rcases h k hk p hp with h1 | h1
   · exact .inl h1
   · rcases D.safe k hk p hp with h2 | h2
     · exact .inl h2
     · refine .inr ?_;unfold safeX at h2 ⊢;rw [h1, h2]
 · rw [unT_congr (fs := fs) fun p hp ht => ?_]
   · exact D.good k hk
   · rcases h k hk p hp with h1 | h1
     · rw [ht] at h1; cases h1
     · rw [h1]
theorem DurD.did (W : d.WF n s) (D : DurD fs d P) {o : Op} (hok : Ok n (does d.now o)) (hs : ∀ p ∈ does d.now o, isTmp p.1 = true ∨ safeX fs p.2) (hg : P (unT (viewD fs (does d.now o))))
  (ha : ∀ p ∈ does d.now o, isTmp p.1 = true → ∀ k, k ≤ d.pend.length → ∀ q ∈ stat d k, q.2 = p.2 → isTmp q.1 = true) : DurD fs (d.did o) P := by
 refine ⟨fun k hk p hp => ?_, fun k hk => ?_, fun p hp ht k hk q hq e => ?_⟩
 · rcases stat_did W o hk with ⟨h1, h2⟩ | ⟨_, h2⟩
   · rw [h2] at hp; exact D.safe k h1 p hp
   · rw [h2] at hp; exact hs p hp
 · rcases stat_did W o hk with ⟨h1, h2⟩ | ⟨_, h2⟩
   · rw [h2]; exact D.good k h1
   · rw [h2]; exact hg
 · rcases stat_did W o hk with ⟨h1, h2⟩ | ⟨_, h2⟩
   · rw [h2] at hq; exact ha p hp ht k h1 q hq e
   · rw [h2] at hq;have : q = p := by
      have hn := List.pairwise_map.1 hok.once;by_cases hqp : q = p
      · exact hqp
      · have h1 : (does d.now o).Pairwise fun a b => a ≠ b → a.2 ≠ b.2 := by
         refine List.Pairwise.imp ?_ hn;intro a b h _;exact h
        have h3 : (does d.now o).Pairwise fun a b => b ≠ a → b.2 ≠ a.2 := hn.imp fun h _ e => h e.symm;exact absurd e (List.Pairwise.forall_of_forall_of_flip (R := fun a b : ByteArray × Nat => a ≠ b → a.2 ≠ b.2) (fun x _ h => absurd rfl h) h1 h3 hq hp hqp)
     rw [this]; exact ht
theorem DurD.create (W : d.WF n s) (hn : n = fs.length) (D : DurD fs d P) {t : ByteArray} (ht : isTmp t = true) (hof : of d.now t = none) (hok : Ok (n + 1) (does d.now (.create t n))) : DurD (fs ++ [⟨[], 0⟩]) (d.did (.create t n)) P := by
 have W1 : d.WF (n + 1) s := ⟨W.name, W.now, W.runs.grow (Nat.le_succ _), W.pend⟩
 have old : ∀ k, ∀ p ∈ stat d k, p.2 < n := fun k p hp => ((stat_ok W k).each p hp).1
 have D1 : DurD (fs ++ [⟨[], 0⟩]) d P := D.files fun k hk p hp => .inr (by
  have := old k p hp;rw [List.getD_eq_getElem?_getD, List.getD_eq_getElem?_getD, List.getElem?_append_left (by omega)])
 have now : ∀ p ∈ d.now, p ∈ stat d d.pend.length := fun p hp => by rw [stat_last W]; exact hp
 have mem : ∀ p ∈ does d.now (.create t n), p = (t, n) ∨ p ∈ d.now := fun p hp => by
  have := ((ins_perm (n := t) (f := n) W.ok.up).mem_iff).1 hp
  rcases List.mem_cons.1 this with h | h
  · exact .inl h
  · exact .inr (mem_filt h)
 refine D1.did W1 hok (fun p hp => ?_) ?_ fun p hp hpt k hk q hq e => ?_
 · rcases mem p hp with rfl | h
   · exact .inl ht
   · exact D1.safe _ (Nat.le_refl _) p (now p h)
 · have h1 := D1.good _ (Nat.le_refl _);rw [stat_last W] at h1;have e : unT (viewD (fs ++ [⟨[], 0⟩]) (does d.now (.create t n))) = unT (viewD (fs ++ [⟨[], 0⟩]) d.now) := by
    show unT (viewD _ (ins t n d.now)) = _;rw [viewD_ins];have hno : getN (viewD (fs ++ [⟨[], 0⟩]) d.now) t = none := by rw [getN_view, hof]; rfl
    generalize viewD (fs ++ [⟨[], 0⟩]) d.now = V at hno;generalize ((fs ++ [(⟨[], 0⟩ : File)]).getD n default).b = y;unfold unT
    induction V with
    | nil => simp [setN, ht]
    | cons p V ih =>
      rw [getN_cons] at hno;split at hno
      · cases hno
      · rename_i hne;unfold setN;rw [if_neg hne];split
        · rw [List.filter_cons, ht]; rfl
        · rw [List.filter_cons, List.filter_cons (x := p), ih hno]
   rw [e];exact h1
 · rcases mem p hp with rfl | h
   · have := old k q hq;simp only at e;omega
   · exact D1.apart p h hpt k hk q hq e
theorem setN_front {b : ByteArray} {y : List Nat} : ∀ {V : Dirc}, (∀ q ∈ V, ltB b q.1 = true) → setN b y V = (b, y) :: V
 | [], _ => rfl
 | p :: V, h => by
   have h1 := h p (List.mem_cons_self ..);unfold setN;rw [if_neg (fun e => by rw [e] at h1; exact strLt_irrefl _ h1), if_pos h1]
theorem setN_cons (b : ByteArray) (y : List Nat) (p : ByteArray × List Nat) (U : Dirc) : setN b y (p :: U) = if p.1 = b then (b, y) :: U else if ltB b p.1 then (b, y) :: p :: U else p :: setN b y U := rfl
theorem unT_cons (p : ByteArray × List Nat) (U : Dirc) : unT (p :: U) = if isTmp p.1 = true then unT U else p :: unT U := by
 unfold unT
 rw [List.filter_cons]
 cases isTmp p.1 <;> rfl
theorem unT_set {b : ByteArray} {y : List Nat} (hb : isTmp b = false) : ∀ {U : Dirc}, UpN U → unT (setN b y U) = setN b y (unT U)
 | [], _ => by
   show unT [(b, y)] = [(b, y)]
   rw [unT_cons, if_neg (by simp [hb])]
   rfl
 | p :: U, hu => by
   have hu2 := List.pairwise_cons.1 hu;have ih := unT_set (y := y) hb hu2.2;rw [setN_cons];by_cases h1 : p.1 = b
   · rw [if_pos h1, unT_cons, if_neg (by simp [hb]), unT_cons, h1, if_neg (by simp [hb]), setN_cons, if_pos h1]
   · rw [if_neg h1];by_cases h2 : ltB b p.1 = true
     · rw [if_pos h2, unT_cons, if_neg (by simp [hb]), setN_front fun q hq => ?_]
       rcases List.mem_cons.1 (mem_filt hq) with rfl | h
       · exact h2
       · exact strLt_trans h2 (hu2.1 q h)
     · rw [if_neg h2, unT_cons, unT_cons];by_cases h3 : isTmp p.1 = true
       · rw [if_pos h3, if_pos h3];exact ih
       · rw [if_neg h3, if_neg h3, setN_cons, if_neg h1, if_neg h2, ih]
theorem DurD.rename (W : d.WF n s) (D : DurD fs d P) {t b : ByteArray} {x : Nat} (ht : isTmp t = true) (hb : isTmp b = false) (hof : of d.now t = some x) (hsf : safeX fs x) (hok : Ok n (does d.now (.rename t b)))
  (hg : P (setN b (fs.getD x default).b (unT (viewD fs d.now)))) : DurD fs (d.did (.rename t b)) P := by
 have now : ∀ p ∈ d.now, p ∈ stat d d.pend.length := fun p hp => by rw [stat_last W]; exact hp
 have hd : does d.now (.rename t b) = ins b x (drop d.now t) := by simp only [does, hof]
 have hup : Up (drop d.now t) := List.Pairwise.filter _ W.ok.up
 have mem : ∀ p ∈ does d.now (.rename t b), p = (b, x) ∨ (p ∈ d.now ∧ p.1 ≠ b ∧ p.1 ≠ t) := fun p hp => by
  rw [hd] at hp;have := ((ins_perm (n := b) (f := x) hup).mem_iff).1 hp
  rcases List.mem_cons.1 this with h | h
  · exact .inl h
  · have h1 := List.mem_filter.1 h;have h2 := List.mem_filter.1 h1.1;exact .inr ⟨h2.1, by simpa using h1.2, by simpa using h2.2⟩
 refine D.did W hok (fun p hp => ?_) ?_ fun p hp hpt k hk q hq e => ?_
 · rcases mem p hp with rfl | ⟨h, _⟩
   · exact .inr hsf
   · exact D.safe _ (Nat.le_refl _) p (now p h)
 · have e : unT (viewD fs (does d.now (.rename t b))) = setN b (fs.getD x default).b (unT (viewD fs d.now)) := by
    rw [hd, viewD_ins, viewD_drop];have hV : UpN (viewD fs d.now) := viewD_up W.ok.up;generalize viewD fs d.now = V at hV;have e2 : unT (delN t V) = unT V := by
     unfold unT delN;rw [List.filter_filter];refine List.filter_congr fun p _ => ?_;by_cases h : p.1 = t
     · rw [h, ht]; simp
     · simp [h]
    rw [unT_set hb (show UpN (delN t V) from List.Pairwise.filter _ hV), e2]
   rw [e];exact hg
 · rcases mem p hp with rfl | ⟨h, _⟩
   · rw [hb] at hpt; cases hpt
   · exact D.apart p h hpt k hk q hq e
theorem DurD.remove (W : d.WF n s) (D : DurD fs d P) {a : ByteArray} (hok : Ok n (does d.now (.remove a))) (hg : P (unT (viewD fs (drop d.now a)))) : DurD fs (d.did (.remove a)) P := by
 have now : ∀ p ∈ d.now, p ∈ stat d d.pend.length := fun p hp => by rw [stat_last W]; exact hp
 have mem : ∀ p ∈ does d.now (.remove a), p ∈ d.now := fun p hp => mem_filt hp
 refine D.did W hok (fun p hp => D.safe _ (Nat.le_refl _) p (now p (mem p hp))) hg fun p hp hpt k hk q hq e => D.apart p (mem p hp) hpt k hk q hq e
theorem DurD.sync (W : d.WF n s) (D : DurD fs d P) (hg : P (unT (viewD fs d.now))) : DurD fs { d with base := d.now, pend := [] } P := by
 have hk0 : ∀ k, stat { d with base := d.now, pend := [] } k = d.now := fun k => by unfold stat; simp [play]
 refine ⟨fun k hk p hp => ?_, fun k hk => by rw [hk0]; exact hg, fun p hp ht k hk q hq e => ?_⟩
 · rw [hk0] at hp;exact D.safe _ (Nat.le_refl _) p (by rw [stat_last W]; exact hp)
 · rw [hk0] at hq;exact D.apart p hp ht _ (Nat.le_refl _) q (by rw [stat_last W]; exact hq) e
end
end AF
namespace AF
open Frame (packN packN_length packN_B8)
def Dur (A : FS) (dir : ByteArray) (P : Dirc → Prop) : Prop := ∃ (i : Nat) (d : Dir), A.dirs[i]? = some d ∧ d.name = dir ∧ DurD A.files d P
def SafeAt (A : FS) (dir t : ByteArray) : Prop := ∃ (i : Nat) (d : Dir) (x : Nat), A.dirs[i]? = some d ∧ d.name = dir ∧ of d.now t = some x ∧ safeX A.files x
def er (A : FS) : FS := { A with fuse := none }
section
variable {A : FS} {dir t b : ByteArray} {T : Dirc} {P Q : Dirc → Prop}
theorem Dur.mono (D : Dur A dir P) (h : ∀ T, P T → Q T) : Dur A dir Q := let ⟨i, d, h1, h2, h3⟩ := D; ⟨i, d, h1, h2, h3.mono h⟩
theorem dir_uniq (W : A.WF) {i j : Nat} {d e : Dir} (h1 : A.dirs[i]? = some d) (h2 : A.dirs[j]? = some e) (hn : d.name = e.name) : i = j ∧ d = e := by
 have a1 := W.at_of h1
 have a2 := W.at_of h2
 rw [hn, a2] at a1
 cases a1
 rw [h1] at h2
 cases h2
 exact ⟨rfl, rfl⟩
theorem Dur.both (L : Live A) (H : Has A dir T) (D : Dur A dir P) : ∃ (i : Nat) (d : Dir), A.dirs[i]? = some d ∧ d.name = dir ∧ viewD A.files d.now = T ∧ DurD A.files d P := by
 obtain ⟨i, d, h1, h2, h3⟩ := H
 obtain ⟨j, e, g1, g2, g3⟩ := D
 obtain ⟨rfl, rfl⟩ := dir_uniq L.wf h1 g1 (by rw [h2, g2])
 exact ⟨i, d, h1, h2, h3, g3⟩
theorem dur_create (L : Live A) (H : Has A dir T) (D : Dur A dir P) (htm : isTmp t = true) (hr : right t = true) (hn : getN T t = none) (hl : T.length < 4096) : Dur (A.create dir t).1 dir P := by
 obtain ⟨i, d, hd, hdn, hv, D⟩ := D.both L H
 have W := L.wf
 have hrd : A.ready dir [t] = .ok i := Has.ready L hd hdn (by simpa using hr)
 have hof : of d.now t = none := by
  rw [← hv, getN_view] at hn
  cases h : of d.now t with
  | none => rfl
  | some x => rw [h] at hn; cases hn
 have hln : d.now.length < 4096 := by rw [← hv] at hl; unfold viewD at hl; rw [List.length_map] at hl; exact hl
 have he : A.create dir t = (FS.did { A.stepOn with files := A.files ++ [⟨[], 0⟩] } i (.create t A.files.length), 0) := by
  unfold FS.create;rw [hrd];simp only [D_of hd, hof];rw [if_neg (by simp), if_neg (by omega), step_live L.fuse]
  rfl
 have W' := W.create dir t
 rw [he] at W' ⊢
 have hd' : (FS.did { A.stepOn with files := A.files ++ [⟨[], 0⟩] } i (.create t A.files.length)).dirs[i]? = some (d.did (.create t A.files.length)) := mod_eq _ hd
 have ok' := (W'.each _ (List.mem_of_getElem? hd')).ok
 refine ⟨i, _, hd', hdn, D.create (W.each d (List.mem_of_getElem? hd)) rfl htm hof ?_⟩
 have : (FS.did { A.stepOn with files := A.files ++ [⟨[], 0⟩] } i (.create t A.files.length)).files.length = A.files.length + 1 := by
  show (A.files ++ [_]).length = _;simp
 rw [this] at ok'
 exact ok'
theorem dur_file (L : Live A) {i x : Nat} {d : Dir} {g : File → File} (hd : A.dirs[i]? = some d) (hdn : d.name = dir) (hx : of d.now t = some x) (htm : isTmp t = true) (D : DurD A.files d P) : Dur (A.stepOn.setFile x g) dir P := by
 refine ⟨i, d, hd, hdn, D.files fun k hk p hp => ?_⟩
 by_cases e : p.2 = x
 · exact .inl (D.apart _ (of_mem hx) htm k hk p hp e)
 · refine .inr ?_;show (A.files.modify x g).getD p.2 default = _;rw [getD_modify, if_neg (fun h => e h.1.symm)]
theorem dur_append (L : Live A) (H : Has A dir T) (D : Dur A dir P) (htm : isTmp t = true) {y c : List Nat} (hn : getN T t = some y) (hl : y.length + c.length ≤ 16777216) (hr : A.used + c.length ≤ A.room) : Dur (A.append dir t c).1 dir P := by
 obtain ⟨i, d, x, hd, hdn, hv, hx, hxl, hb, hrt, he⟩ := has_entry L H hn
 obtain ⟨j, e, g1, g2, g3⟩ := D
 obtain ⟨rfl, rfl⟩ := dir_uniq L.wf hd g1 (by rw [hdn, g2])
 have he2 : A.append dir t c = (A.stepOn.setFile x fun y => { y with b := y.b ++ c }, 0) := by
  unfold FS.append;rw [he];simp only [hb];rw [if_neg (by omega), if_neg (by omega), step_live L.fuse]
 rw [he2]
 exact dur_file L hd hdn hx htm g3
theorem dur_sync (L : Live A) (H : Has A dir T) (D : Dur A dir P) (htm : isTmp t = true) {y : List Nat} (hn : getN T t = some y) : Dur (A.sync dir t).1 dir P ∧ SafeAt (A.sync dir t).1 dir t := by
 obtain ⟨i, d, x, hd, hdn, hv, hx, hxl, hb, hrt, he⟩ := has_entry L H hn
 obtain ⟨j, e, g1, g2, g3⟩ := D
 obtain ⟨rfl, rfl⟩ := dir_uniq L.wf hd g1 (by rw [hdn, g2])
 have he2 : A.sync dir t = (A.stepOn.setFile x fun y => { y with safe := y.b.length }, 0) := by
  unfold FS.sync;rw [he];simp only [];rw [step_live L.fuse]
 rw [he2]
 refine ⟨dur_file L hd hdn hx htm g3, i, d, x, hd, hdn, hx, ?_⟩
 unfold safeX
 show ((A.files.modify x _).getD x default).safe = ((A.files.modify x _).getD x default).b.length
 rw [getD_modify, if_pos ⟨rfl, hxl⟩]
theorem dur_rename (L : Live A) (H : Has A dir T) (D : Dur A dir P) (htm : isTmp t = true) (hbt : isTmp b = false) {y : List Nat} (hn : getN T t = some y) (hr : right b = true) (hs : SafeAt A dir t) (hP : P (setN b y (unT T))) : Dur (A.rename dir t b).1 dir P := by
 obtain ⟨i, d, x, hd, hdn, hv, hx, hxl, hb, hrt, he⟩ := has_entry L H hn
 obtain ⟨j, e, g1, g2, g3⟩ := D
 obtain ⟨rfl, rfl⟩ := dir_uniq L.wf hd g1 (by rw [hdn, g2])
 obtain ⟨j, e, x2, g1, g2, g4, g5⟩ := hs
 obtain ⟨rfl, rfl⟩ := dir_uniq L.wf hd g1 (by rw [hdn, g2])
 rw [hx] at g4
 cases g4
 have he2 : A.rename dir t b = (A.stepOn.did i (.rename t b), 0) := by
  unfold FS.rename;rw [Has.ready L hd hdn (ss := [t, b]) (by intro s hs; simp at hs; rcases hs with rfl | rfl <;> assumption)];simp only [D_of hd, hx];rw [if_neg (by simp), step_live L.fuse]
 have W' := L.wf.rename dir t b
 rw [he2] at W' ⊢
 have hd' : (A.stepOn.did i (.rename t b)).dirs[i]? = some (d.did (.rename t b)) := mod_eq _ hd
 have ok' := (W'.each _ (List.mem_of_getElem? hd')).ok
 refine ⟨i, _, hd', hdn, g3.rename (L.wf.each d (List.mem_of_getElem? hd)) htm hbt hx g5 ok' ?_⟩
 rw [hv]
 have : (A.files.getD x default).b = y := hb
 rw [this]
 exact hP
theorem dur_remove (L : Live A) (H : Has A dir T) (D : Dur A dir P) {y : List Nat} (hn : getN T b = some y) (hP : P (unT (delN b T))) : Dur (A.remove dir b).1 dir P := by
 obtain ⟨i, d, x, hd, hdn, hv, hx, hxl, hb, hrt, he⟩ := has_entry L H hn
 obtain ⟨j, e, g1, g2, g3⟩ := D
 obtain ⟨rfl, rfl⟩ := dir_uniq L.wf hd g1 (by rw [hdn, g2])
 have he2 : A.remove dir b = (A.stepOn.did i (.remove b), 0) := by
  unfold FS.remove;rw [he];simp only [];rw [step_live L.fuse]
 have W' := L.wf.remove dir b
 rw [he2] at W' ⊢
 have hd' : (A.stepOn.did i (.remove b)).dirs[i]? = some (d.did (.remove b)) := mod_eq _ hd
 have ok' := (W'.each _ (List.mem_of_getElem? hd')).ok
 refine ⟨i, _, hd', hdn, g3.remove (L.wf.each d (List.mem_of_getElem? hd)) ok' ?_⟩
 show P (unT (viewD A.files (drop d.now b)))
 rw [viewD_drop, hv]
 exact hP
theorem dur_syncDir (L : Live A) (H : Has A dir T) (D : Dur A dir P) (hQ : Q (unT T)) : Dur (A.syncDir dir).1 dir Q := by
 obtain ⟨i, d, hd, hdn, hv, D⟩ := D.both L H
 have he2 : A.syncDir dir = (A.stepOn.setDir i fun d => { d with base := d.now, pend := [] }, 0) := by
  unfold FS.syncDir;rw [Has.ready L hd hdn (ss := []) (by simp)];simp only [];rw [step_live L.fuse]
 rw [he2]
 have hd' : (A.stepOn.setDir i fun d => { d with base := d.now, pend := [] }).dirs[i]? = some { d with base := d.now, pend := [] } := mod_eq (fun d : Dir => { d with base := d.now, pend := [] }) hd
 have W := L.wf.each d (List.mem_of_getElem? hd)
 have D2 : DurD A.files d (fun _ => True) := D.mono fun _ _ => trivial
 have D3 := D2.sync W trivial
 refine ⟨i, _, hd', hdn, D3.safe, fun k hk => ?_, D3.apart⟩
 have : stat { d with base := d.now, pend := [] } k = d.now := by unfold stat; simp [play]
 rw [this, show (A.stepOn.setDir i fun d => { d with base := d.now, pend := [] }).files = A.files from rfl, hv]
 exact hQ
theorem step_fz {g : FS → FS} (hg : ∀ B, er (g B) = g (er B)) : A.step g = ({ A with off := true }, 60) ∨ (er (A.step g).1 = ((er A).step g).1 ∧ (A.step g).2 = ((er A).step g).2) := by
 unfold FS.step
 by_cases h : A.fuse = some 0
 · rw [if_pos h]; exact .inl rfl
 · rw [if_neg h, if_neg (by show ¬ (none : Option Nat) = some 0; simp)];refine .inr ⟨?_, rfl⟩;show er (g A.stepOn) = g (er A).stepOn;rw [hg]
   rfl
def Fz (f : FS → FS × Nat) : Prop := ∀ A, f A = ({ A with off := true }, 60) ∨ (er (f A).1 = (f (er A)).1 ∧ (f A).2 = (f (er A)).2)
theorem fz_create (dir t : ByteArray) : Fz fun A => A.create dir t := by
 intro A
 show A.create dir t = _ ∨ (er (A.create dir t).1 = ((er A).create dir t).1 ∧ (A.create dir t).2 = ((er A).create dir t).2)
 unfold FS.create
 rw [show (er A).ready dir [t] = A.ready dir [t] from rfl]
 cases A.ready dir [t] with
 | error e => exact .inr ⟨rfl, rfl⟩
 | ok i =>
   simp only [];rw [show (er A).D i = A.D i from rfl];split
   · exact .inr ⟨rfl, rfl⟩
   · split
     · exact .inr ⟨rfl, rfl⟩
     · exact step_fz fun B => rfl
theorem fz_append (dir t : ByteArray) (c : List Nat) : Fz fun A => A.append dir t c := by
 intro A
 show A.append dir t c = _ ∨ (er (A.append dir t c).1 = ((er A).append dir t c).1 ∧ (A.append dir t c).2 = ((er A).append dir t c).2)
 unfold FS.append
 rw [show (er A).entry dir t = A.entry dir t from rfl]
 cases A.entry dir t with
 | error e => exact .inr ⟨rfl, rfl⟩
 | ok q =>
   simp only [];rw [show (er A).X q.2 = A.X q.2 from rfl, show (er A).used = A.used from rfl, show (er A).room = A.room from rfl];split
   · exact .inr ⟨rfl, rfl⟩
   · split
     · exact .inr ⟨rfl, rfl⟩
     · exact step_fz fun B => rfl
theorem fz_sync (dir t : ByteArray) : Fz fun A => A.sync dir t := by
 intro A
 show A.sync dir t = _ ∨ (er (A.sync dir t).1 = ((er A).sync dir t).1 ∧ (A.sync dir t).2 = ((er A).sync dir t).2)
 unfold FS.sync
 rw [show (er A).entry dir t = A.entry dir t from rfl]
 cases A.entry dir t with
 | error e => exact .inr ⟨rfl, rfl⟩
 | ok q => exact step_fz fun B => rfl
theorem fz_syncDir (dir : ByteArray) : Fz fun A => A.syncDir dir := by
 intro A
 show A.syncDir dir = _ ∨ (er (A.syncDir dir).1 = ((er A).syncDir dir).1 ∧ (A.syncDir dir).2 = ((er A).syncDir dir).2)
 unfold FS.syncDir
 rw [show (er A).ready dir [] = A.ready dir [] from rfl]
 cases A.ready dir [] with
 | error e => exact .inr ⟨rfl, rfl⟩
 | ok q => exact step_fz fun B => rfl
theorem fz_rename (dir t b : ByteArray) : Fz fun A => A.rename dir t b := by
 intro A
 show A.rename dir t b = _ ∨ (er (A.rename dir t b).1 = ((er A).rename dir t b).1 ∧ (A.rename dir t b).2 = ((er A).rename dir t b).2)
 unfold FS.rename
 rw [show (er A).ready dir [t, b] = A.ready dir [t, b] from rfl]
 cases A.ready dir [t, b] with
 | error e => exact .inr ⟨rfl, rfl⟩
 | ok i =>
   simp only [];rw [show (er A).D i = A.D i from rfl];split
   · exact .inr ⟨rfl, rfl⟩
   · exact step_fz fun B => rfl
theorem fz_remove (dir t : ByteArray) : Fz fun A => A.remove dir t := by
 intro A
 show A.remove dir t = _ ∨ (er (A.remove dir t).1 = ((er A).remove dir t).1 ∧ (A.remove dir t).2 = ((er A).remove dir t).2)
 unfold FS.remove
 rw [show (er A).entry dir t = A.entry dir t from rfl]
 cases A.entry dir t with
 | error e => exact .inr ⟨rfl, rfl⟩
 | ok q => exact step_fz fun B => rfl
end
end AF
namespace AF
open Frame (packN packN_length packN_B8)
section
variable {A B : FS} {dir name : ByteArray} {T : Dirc} {P Q : Dirc → Prop} {x : List Nat}
theorem unT_id {T : Dirc} (h : ∀ p ∈ T, isTmp p.1 = false) : unT T = T := List.filter_eq_self.2 fun p hp => by simp [h p hp]
theorem getN_T {T : Dirc} (h : ∀ p ∈ T, isTmp p.1 = false) {t : ByteArray} (ht : isTmp t = true) : getN T t = none := by
 rw [getN_none]
 intro p hp e
 have := h p hp
 rw [e, ht] at this
 cases this
theorem unT_setTmp {T : Dirc} (hu : UpN T) {t : ByteArray} (ht : isTmp t = true) (hn : getN T t = none) (y : List Nat) : unT (setN t y T) = unT T := by
 induction T with
 | nil => show unT [(t, y)] = _; rw [unT_cons, if_pos ht]
 | cons p T ih =>
   rw [getN_cons] at hn;split at hn
   · cases hn
   · rename_i hne;rw [setN_cons, if_neg hne];split
     · rw [unT_cons, if_pos ht]
     · rw [unT_cons, unT_cons (U := T), ih (List.pairwise_cons.1 hu).2 hn]
theorem remove_fz (L : Live (er A)) (H : Has (er A) dir T) {y : List Nat} (hn : getN T name = some y) (D : Dur A dir P) (hP : P (unT (delN name T))) :
  ((A.remove dir name).2 = 0 ∧ er (A.remove dir name).1 = ((er A).remove dir name).1 ∧ Dur (A.remove dir name).1 dir P) ∨ ((A.remove dir name).2 = 60 ∧ Dur (A.remove dir name).1 dir P) := by
 rcases fz_remove dir name A with e | ⟨e1, e2⟩
 · refine .inr ?_;have e' : A.remove dir name = ({ A with off := true }, 60) := e;rw [e'];exact ⟨rfl, D⟩
 · have e1' : er (A.remove dir name).1 = ((er A).remove dir name).1 := e1;have e2' : (A.remove dir name).2 = ((er A).remove dir name).2 := e2;have D2 : Dur ((er A).remove dir name).1 dir P := dur_remove L H D hn hP;rw [← e1'] at D2;exact .inl ⟨by rw [e2']; exact (remove_ok L H hn).1, e1', D2⟩
theorem syncDir_fz (L : Live (er A)) (H : Has (er A) dir T) (D : Dur A dir P) :
  ((A.syncDir dir).2 = 0 ∧ er (A.syncDir dir).1 = ((er A).syncDir dir).1 ∧ Dur (A.syncDir dir).1 dir (fun U => U = unT T)) ∨ ((A.syncDir dir).2 = 60 ∧ Dur (A.syncDir dir).1 dir P) := by
 rcases fz_syncDir dir A with e | ⟨e1, e2⟩
 · refine .inr ?_;have e' : A.syncDir dir = ({ A with off := true }, 60) := e;rw [e'];exact ⟨rfl, D⟩
 · have e1' : er (A.syncDir dir).1 = ((er A).syncDir dir).1 := e1;have e2' : (A.syncDir dir).2 = ((er A).syncDir dir).2 := e2;have D2 : Dur ((er A).syncDir dir).1 dir (fun U => U = unT T) := dur_syncDir L H D rfl;rw [← e1'] at D2;exact .inl ⟨by rw [e2']; exact (syncDir_ok L H).1, e1', D2⟩
theorem crash_dur (W : A.WF) (D : Dur A dir P) (ps : List Int) : ∃ T, Live (A.crash ps) ∧ Has (A.crash ps) dir T ∧ P (unT T) := by
 obtain ⟨i, d, hd, hdn, D⟩ := D
 obtain ⟨k, hk, he, hf⟩ := crash_look W ps hd
 have w := W.each d (List.mem_of_getElem? hd)
 refine ⟨_, ⟨W.crash ps, rfl, rfl⟩, ⟨i, _, he, hdn, rfl⟩, ?_⟩
 have hg := D.good k hk
 show P (unT (viewD (A.crash ps).files (stat d k)))
 rw [unT_congr (fs := A.files) fun p hp ht => ?_]
 · exact hg
 · have hlt := ((stat_ok w k).each p hp).1;obtain ⟨y, hy⟩ : ∃ y, A.files[p.2]? = some y := ⟨_, List.getElem?_eq_getElem hlt⟩
   obtain ⟨z, hz, m, c1, c2, c3, _⟩ := hf p.2 y hy
   rcases D.safe k hk p hp with h1 | h1
   · rw [ht] at h1; cases h1
   · unfold safeX at h1;rw [List.getD_eq_getElem?_getD, hz, List.getD_eq_getElem?_getD, hy];rw [List.getD_eq_getElem?_getD, hy] at h1;simp only [Option.getD_some] at h1 ⊢;rw [c3, List.take_of_length_le (by omega)]
theorem UpN.once {T : Dirc} (h : UpN T) : (T.map (·.1)).Nodup := by
 rw [List.Nodup, List.pairwise_map]
 refine List.Pairwise.imp ?_ h
 intro a b hab e
 rw [← e] at hab
 exact strLt_irrefl a.1 hab
theorem clean_tmp (dir : ByteArray) : ∀ (l : List ByteArray) (A : FS) (T : Dirc) (n : Nat), Live A → Has A dir T → l.Nodup → (∀ s ∈ l, (getN T s).isSome = true) → ∃ B, cleanGo dir l A n = (B, .ok (n + (l.filter isTmp).length)) ∧ Upd 0 0 l.length A B dir (T.filter fun p => !(isTmp p.1 && (l.any fun t => decide (t = p.1)))) ∧ ((l.filter isTmp).length = 0 → B = A)
 | [], A, T, n, L, H, _, _ => ⟨A, rfl, by
   have e : (T.filter fun p => !(isTmp p.1 && (([] : List ByteArray).any fun t => decide (t = p.1)))) = T := List.filter_eq_self.2 fun p _ => by simp
   rw [e];exact ⟨L, H, fun _ _ _ h => h, fun _ _ h => h, rfl, Nat.le_refl _, Nat.le_refl _, Nat.le_refl _⟩, fun _ => rfl⟩
 | s :: l, A, T, n, L, H, hn, hs => by
   have hn2 := List.nodup_cons.1 hn;unfold cleanGo;by_cases ht : isTmp s = true
   · rw [if_pos ht];obtain ⟨y, hy⟩ := Option.isSome_iff_exists.1 (hs s (List.mem_cons_self ..));obtain ⟨e, u⟩ := remove_ok L H hy;rw [if_pos e];obtain ⟨B, h1, h2, h3⟩ := clean_tmp dir l _ _ (n + 1) u.live u.here hn2.2 fun t htl => by
      rw [getN_del_ne (fun e => hn2.1 (by rw [e]; exact htl))];exact hs t (List.mem_cons_of_mem _ htl)
     refine ⟨B, ?_, ?_, fun h => ?_⟩
     · rw [h1, List.filter_cons, if_pos ht, List.length_cons];congr 2;omega
     · have e2 : (delN s T).filter (fun p => !(isTmp p.1 && (l.any fun t => decide (t = p.1)))) = T.filter fun p => !(isTmp p.1 && ((s :: l).any fun t => decide (t = p.1))) := by
        unfold delN;rw [List.filter_filter];refine List.filter_congr fun p _ => ?_;by_cases hp : p.1 = s
        · simp [hp, ht]
        · have : ¬ s = p.1 := fun e => hp e.symm;simp [hp, this]
       rw [e2] at h2;exact (u.trans h2).weak (by omega) (by omega) (by rw [List.length_cons]; omega)
     · rw [List.filter_cons, if_pos ht, List.length_cons] at h;omega
   · rw [if_neg ht];obtain ⟨B, h1, h2, h3⟩ := clean_tmp dir l A T n L H hn2.2 fun t htl => hs t (List.mem_cons_of_mem _ htl);refine ⟨B, ?_, ?_, fun h => h3 (by rw [List.filter_cons, if_neg ht] at h; exact h)⟩
     · rw [h1, List.filter_cons, if_neg ht]
     · have e2 : T.filter (fun p => !(isTmp p.1 && (l.any fun t => decide (t = p.1)))) = T.filter fun p => !(isTmp p.1 && ((s :: l).any fun t => decide (t = p.1))) := by
        refine List.filter_congr fun p _ => ?_;by_cases hp : p.1 = s
        · simp [hp, ht]
        · have : ¬ s = p.1 := fun e => hp e.symm;simp [hp, this]
       rw [e2] at h2;exact h2.weak (Nat.le_refl _) (Nat.le_refl _) (by rw [List.length_cons]; omega)
theorem prep_tmp (L : Live A) (H : Has A dir T) : ∃ B, A.prep dir = (B, .ok ((unT T).map (·.1))) ∧ Upd 0 0 (T.length + 1) A B dir (unT T) := by
 have hup := has_up L H
 obtain ⟨B, h1, h2, h3⟩ := clean_tmp dir (T.map (·.1)) A T 0 L H hup.once fun s hs => by
  obtain ⟨p, hp, rfl⟩ := List.mem_map.1 hs;rw [mem_getN hup (k := p.1) (x := p.2) hp]
  rfl
 have eT : (T.filter fun p => !(isTmp p.1 && ((T.map (·.1)).any fun t => decide (t = p.1)))) = unT T := by
  unfold unT;refine List.filter_congr fun p hp => ?_;have : ((T.map (·.1)).any fun t => decide (t = p.1)) = true := by
   rw [List.any_eq_true];exact ⟨p.1, List.mem_map.2 ⟨p, hp, rfl⟩, by simp⟩
  rw [this, Bool.and_true]
 rw [eT, List.length_map] at h2
 rw [Nat.zero_add] at h1
 unfold FS.prep FS.tidy FS.clean
 rw [list_ok L H]
 simp only []
 rw [h1]
 simp only []
 by_cases hc : 0 < ((T.map (·.1)).filter isTmp).length
 · rw [if_pos hc];obtain ⟨e5, u5⟩ := syncDir_ok h2.live h2.here;rw [if_pos e5];simp only [];exact ⟨_, by rw [list_ok u5.live u5.here], (h2.trans u5).weak (Nat.le_refl _) (Nat.le_refl _) (Nat.le_refl _)⟩
 · rw [if_neg hc];simp only [];exact ⟨B, by rw [list_ok h2.live h2.here], h2.weak (Nat.le_refl _) (Nat.le_refl _) (by omega)⟩
end
end AF
namespace AF
open Frame (packN)
open Hex (digs)
structure MF (M : Meta) (T : Dirc) : Prop where
 upS : UpT M.S
 upD : UpT M.D
 upF : UpT M.Fo
 okS : ∀ p ∈ M.S, IdOk p.1 ∧ B8 p.2 ∧ p.2.length ≤ 5000
 okD : ∀ p ∈ M.D, IdOk p.1 ∧ B8 p.2 ∧ p.2.length ≤ 5000
 okF : ∀ p ∈ M.Fo, IdOk p.1
 lenD : (pairsE M.D).length ≤ 16777208
 fold : (M.Fo = [] ∧ M.D = []) ∨ (-1 < topT M.D ∧ topT M.Fo = topT M.D ∧ (nmI 102 (topT M.D), packN (pairsE M.D)) ∈ T)
 fromT : ∀ k x, (k, x) ∈ T → (∃ p ∈ M.S, k = nmI 98 p.1 ∧ x = packN p.2) ∨ (∃ p ∈ M.Fo, k = nmI 102 p.1)
 toS : ∀ p ∈ M.S, (nmI 98 p.1, packN p.2) ∈ T
 toF : ∀ p ∈ M.Fo, ∃ x, (nmI 102 p.1, x) ∈ T
section
variable {A : FS} {M : Meta} {T : Dirc}
theorem MInv.mf (I : MInv A M T) : MF M T := by
 refine ⟨I.upS, I.upD, I.foUp, I.okS, I.okD, I.foOk, I.lenD, ?_, fun k x h => ?_, fun p hp => (I.files _ _).2 (.inl ⟨p, hp, rfl, rfl⟩), fun p hp => ⟨_, (I.files _ _).2 (.inr ⟨p, hp, rfl, rfl⟩)⟩⟩
 · rcases I.fold with h | ⟨h1, h2⟩
   · exact .inl h
   · exact .inr ⟨h1, I.topFo, (I.files _ _).2 (.inr ⟨(topT M.D, ()), by rw [h2]; exact List.mem_singleton.2 rfl, rfl, rfl⟩)⟩
 · rcases (I.files k x).1 h with h | ⟨p, hp, e, _⟩
   · exact .inl h
   · exact .inr ⟨p, hp, e⟩
theorem MF.noTmp (I : MF M T) : ∀ p ∈ T, isTmp p.1 = false := fun p hp => by
 rcases I.fromT p.1 p.2 hp with ⟨q, _, e, _⟩ | ⟨q, _, e⟩ <;> rw [e] <;> exact Fnm.nm_tmp (by decide) _
theorem MF.scan (I : MF M T) : scanNames (T.map (·.1)) = (M.S.map (fun p => (p.1, [])), M.Fo) := by
 obtain ⟨a1, a2, a3, a4, a5⟩ := scan_inv (T.map (·.1)) ([], []) List.Pairwise.nil List.Pairwise.nil (by simp)
 have k98 : ∀ n, (∃ s ∈ T.map (·.1), kindN s = some (98, n)) ↔ ∃ p ∈ M.S, p.1 = n := fun n => by
  constructor
  · rintro ⟨s, hs, hk⟩;obtain ⟨q, hq, rfl⟩ := List.mem_map.1 hs
    rcases I.fromT q.1 q.2 hq with ⟨p, hp, e, _⟩ | ⟨p, hp, e⟩
    · rw [e, kindN_nm (.inl rfl) (I.okS p hp).1] at hk;cases hk;exact ⟨p, hp, rfl⟩
    · rw [e, kindN_nm (.inr rfl) (I.okF p hp)] at hk;cases hk
  · rintro ⟨p, hp, rfl⟩;exact ⟨_, List.mem_map.2 ⟨_, I.toS p hp, rfl⟩, kindN_nm (.inl rfl) (I.okS p hp).1⟩
 have k102 : ∀ n, (∃ s ∈ T.map (·.1), ∃ c, c ≠ 98 ∧ kindN s = some (c, n)) ↔ ∃ p ∈ M.Fo, p.1 = n := fun n => by
  constructor
  · rintro ⟨s, hs, c, hc, hk⟩;obtain ⟨q, hq, rfl⟩ := List.mem_map.1 hs
    rcases I.fromT q.1 q.2 hq with ⟨p, hp, e, _⟩ | ⟨p, hp, e⟩
    · rw [e, kindN_nm (.inl rfl) (I.okS p hp).1] at hk;cases hk;exact absurd rfl hc
    · rw [e, kindN_nm (.inr rfl) (I.okF p hp)] at hk;cases hk;exact ⟨p, hp, rfl⟩
  · rintro ⟨p, hp, rfl⟩;obtain ⟨x, hx⟩ := I.toF p hp;exact ⟨_, List.mem_map.2 ⟨_, hx, rfl⟩, 102, by decide, kindN_nm (.inr rfl) (I.okF p hp)⟩
 unfold scanNames
 refine Prod.ext (tab_ext a1 (map_up I.upS) fun p => ?_) (tab_ext a2 I.upF fun p => ?_)
 · obtain ⟨n, x⟩ := p;constructor
   · intro hp;have h1 := a3 _ hp;have h2 := (a4 n).1 (List.mem_map.2 ⟨_, hp, rfl⟩)
     rcases h2 with h2 | h2
     · cases h2
     · obtain ⟨p, hp2, rfl⟩ := (k98 n).1 h2;simp only at h1;subst h1;exact List.mem_map.2 ⟨p, hp2, rfl⟩
   · intro hp;obtain ⟨q, hq, e⟩ := List.mem_map.1 hp;cases e;have := (a4 q.1).2 (.inr ((k98 q.1).2 ⟨q, hq, rfl⟩));obtain ⟨r, hr, e⟩ := List.mem_map.1 this;have h3 := a3 _ hr;obtain ⟨r1, r2⟩ := r;simp only at e h3;subst e h3;exact hr
 · obtain ⟨n, ⟨⟩⟩ := p;constructor
   · intro hp
     rcases (a5 n).1 (List.mem_map.2 ⟨_, hp, rfl⟩) with h2 | h2
     · cases h2
     · obtain ⟨p, hp2, rfl⟩ := (k102 n).1 h2;exact hp2
   · intro hp;have := (a5 n).2 (.inr ((k102 n).2 ⟨_, hp, rfl⟩));obtain ⟨r, hr, e⟩ := List.mem_map.1 this;obtain ⟨r1, ⟨⟩⟩ := r;simp only at e;subst e;exact hr
theorem MF.getS (I : MF M T) (L : Live A) (H : Has A M.dir T) {p : Int × List Nat} (hp : p ∈ M.S) : A.get M.dir (nmI 98 p.1) = .ok p.2 :=
 get_ok L H (mem_getN (has_up L H) (I.toS p hp)) (I.okS p hp).2.1 (by have := (I.okS p hp).2.2; omega)
theorem MF.reads (I : MF M T) (L : Live A) (H : Has A M.dir T) : readS A M.dir (M.S.map (·.1)) (M.S.map fun p => (p.1, [])) = .ok M.S := by
 obtain ⟨V, e, hV, hk⟩ := readS_all A M.dir I.upS (fun p hp => I.getS L H hp) (M.S.map (·.1)) (M.S.map fun p => (p.1, [])) (map_up I.upS) fun n hn => hn
 rw [e]
 congr 1
 refine tab_ext2 hV I.upS fun k => ?_
 rw [hk]
 by_cases h : k ∈ M.S.map (·.1)
 · rw [if_pos h]
 · rw [if_neg h];have h1 : getT M.S k = none := getT_none.2 fun p hp e => h (List.mem_map.2 ⟨p, hp, e⟩);rw [h1, getT_none];intro q hq e;obtain ⟨p, hp, rfl⟩ := List.mem_map.1 hq;exact h (List.mem_map.2 ⟨p, hp, e⟩)
theorem MF.getF (I : MF M T) (L : Live A) (H : Has A M.dir T) (h : (nmI 102 (topT M.D), packN (pairsE M.D)) ∈ T) : A.get M.dir (nmI 102 (topT M.D)) = .ok (pairsE M.D) :=
 get_ok L H (mem_getN (has_up L H) h) (pairsE_B8 fun q hq => (I.okD q hq).2.1) I.lenD
theorem MF.getE (I : MF M T) (k : Int) : getT M.entries k = M.get k := by
 unfold Meta.entries Meta.get
 rw [getT_copy I.upD]
 cases getT M.D k <;> rfl
theorem MF.upE (I : MF M T) : UpT M.entries := copyT_up I.upS
theorem MF.okE (I : MF M T) : ∀ p ∈ M.entries, IdOk p.1 ∧ B8 p.2 ∧ p.2.length ≤ 5000 := by
 rintro ⟨k, x⟩ hp
 have h := mem_getT I.upE hp
 rw [I.getE] at h
 unfold Meta.get at h
 cases hd : getT M.D k with
 | some b => rw [hd] at h; cases h; exact I.okD _ (getT_mem hd)
 | none => rw [hd] at h; exact I.okS _ (getT_mem h)
end
theorem goG_fz {α : Type} {P : Dirc → Prop} (dir : ByteArray) {c : Nat} (hc : c = 98 ∨ c = 102) (p : Int → Bool) : ∀ (l : List Int) (A : FS) (T : List (Int × α)) (s : Bool) (U : Dirc), Live (er A) → Has (er A) dir U → l.Nodup → (∀ n ∈ l, IdOk n) → (∀ n ∈ l, p n = true → ∃ y, getN U (nmI c n) = some y) → (∀ q ∈ U, isTmp q.1 = false) →
  Dur A dir P → (∀ V n, n ∈ l → p n = true → P V → P (delN (nmI c n) V)) →
  ((goG dir c p l A T s).2.2.2 = 0 ∧ er (goG dir c p l A T s).1 = (goG dir c p l (er A) T s).1 ∧ (goG dir c p l A T s).2 = (goG dir c p l (er A) T s).2 ∧ Dur (goG dir c p l A T s).1 dir P) ∨
  ((goG dir c p l A T s).2.2.2 = 60 ∧ Dur (goG dir c p l A T s).1 dir P)
 | [], A, T, s, U, L, H, hn, hi, hg, ht, D, hP => .inl ⟨rfl, rfl, rfl, D⟩
 | n :: l, A, T, s, U, L, H, hn, hi, hg, ht, D, hP => by
   have hn2 := List.nodup_cons.1 hn;unfold goG;by_cases hp : p n = true
   · rw [if_pos hp, if_pos hp];obtain ⟨y, hy⟩ := hg n (List.mem_cons_self ..) hp;obtain ⟨e, u⟩ := remove_ok L H hy;rw [if_pos e];have hdel : ∀ q ∈ delN (nmI c n) U, isTmp q.1 = false := fun q hq => ht q (List.mem_filter.1 hq).1;have hPU : P (unT (delN (nmI c n) U)) := by
      rw [unT_id hdel];refine hP U n (List.mem_cons_self ..) hp ?_;obtain ⟨i, d, hd, hdn, hv, D'⟩ := Dur.both (A := er A) L H D;have h1 := D'.good _ (Nat.le_refl _);rw [stat_last (L.wf.each d (List.mem_of_getElem? hd)), hv, unT_id ht] at h1;exact h1
     rcases remove_fz L H hy D hPU with ⟨h1, h2, h3⟩ | ⟨h1, h2⟩
     · rw [if_pos h1];rw [← h2] at u;have hc256 : c < 256 := by omega
       have := goG_fz dir hc p l (A.remove dir (nmI c n)).1 (delT n T) true _ u.live u.here hn2.2 (fun m hm => hi m (List.mem_cons_of_mem _ hm)) (fun m hm hpm => by
        obtain ⟨z, hz⟩ := hg m (List.mem_cons_of_mem _ hm) hpm;refine ⟨z, ?_⟩;rw [getN_del_ne (fun e2 => hn2.1 ?_)]
        · exact hz
        · have := (nmI_inj hc256 hc256 (hi n (List.mem_cons_self ..)) (hi m (List.mem_cons_of_mem _ hm)) e2).2;rw [this];exact hm) hdel h3 (fun V m hm hpm hV => hP V m (List.mem_cons_of_mem _ hm) hpm hV)
       rw [h2] at this;exact this
     · rw [if_neg (by rw [h1]; decide)];exact .inr ⟨h1, h2⟩
   · rw [if_neg hp, if_neg hp];exact goG_fz dir hc p l A T s U L H hn2.2 (fun m hm => hi m (List.mem_cons_of_mem _ hm)) (fun m hm hpm => hg m (List.mem_cons_of_mem _ hm) hpm) ht D (fun V m hm hpm hV => hP V m (List.mem_cons_of_mem _ hm) hpm hV)
theorem goG_flag {α : Type} (dir : ByteArray) (c : Nat) (p : Int → Bool) : ∀ (l : List Int) (A : FS) (T : List (Int × α)) (s : Bool), ((goG dir c p l A T s).2.2.1 = false → s = false) ∧ ((goG dir c p l A T s).2.2.1 = false → (goG dir c p l A T s).2.2.2 = 0 → (goG dir c p l A T s).1 = A)
 | [], A, T, s => ⟨fun h => h, fun _ _ => rfl⟩
 | n :: l, A, T, s => by
   unfold goG;by_cases hp : p n = true
   · rw [if_pos hp];by_cases he : (A.remove dir (nmI c n)).2 = 0
     · rw [if_pos he];have := goG_flag dir c p l (A.remove dir (nmI c n)).1 (delT n T) true;exact ⟨(fun h => by cases this.1 h), (fun h _ => by cases this.1 h)⟩
     · rw [if_neg he];exact ⟨fun h => h, fun _ h => absurd h he⟩
   · rw [if_neg hp];exact goG_flag dir c p l A T s
end AF
namespace AF
open Frame (packN)
open Hex (digs)
section
variable {A : FS} {M : Meta} {T : Dirc}
theorem Has.uniq {A : FS} {dir : ByteArray} {T U : Dirc} (W : A.WF) (h1 : Has A dir T) (h2 : Has A dir U) : T = U := by
 obtain ⟨i, d, a1, a2, a3⟩ := h1
 obtain ⟨j, e, b1, b2, b3⟩ := h2
 obtain ⟨rfl, rfl⟩ := dir_uniq W a1 b1 (by rw [a2, b2])
 rw [← a3, ← b3]
theorem MInv.plain (I : MInv A M T) : ∀ p ∈ T, isTmp p.1 = false := I.mf.noTmp
theorem get_putM {M : Meta} {id : Int} {bs : List Nat} (hg : M.get id = none) (k : Int) : ({ M with S := setT id bs M.S } : Meta).get k = if k = id then some bs else M.get k := by
 unfold Meta.get at hg ⊢
 cases hd : getT M.D id with
 | some b => rw [hd] at hg; cases hg
 | none =>
   by_cases h : k = id
   · subst h;rw [if_pos rfl];simp only [hd];exact getT_set_self _ _ _
   · rw [if_neg h];simp only [getT_set_ne _ (Ne.symm h)]
structure FP (M : Meta) (T : Dirc) (sm : Ent) (last : Int) (U : Dirc) : Prop where
 sub : ∀ k x, (k, x) ∈ U → (k = nmI 102 last ∧ x = packN (pairsE sm)) ∨ (k, x) ∈ T
 top : (nmI 102 last, packN (pairsE sm)) ∈ U
 keep : ∀ p ∈ M.S, last < p.1 → (nmI 98 p.1, packN p.2) ∈ U
theorem topT_eq {α : Type} {F : List (Int × α)} {k : Int} (hk : -1 < k) (h1 : ∀ p ∈ F, p.1 ≤ k) (h2 : ∃ p ∈ F, p.1 = k) : topT F = k := by
 obtain ⟨p, hp, e⟩ := h2
 have a := le_top hp
 obtain ⟨q, hq, e2⟩ := top_mem (T := F) (by omega)
 have := h1 q hq
 omega
theorem getN_some_of {U : Dirc} {k : ByteArray} {x : List Nat} (h : (k, x) ∈ U) : (getN U k).isSome = true := by
 cases hg : getN U k with
 | none => exact absurd rfl (getN_none.1 hg _ h)
 | some y => rfl
theorem fp_mf (I : MInv A M T) {m : Int} (hm : topT M.Fo ≤ m) (sm : Ent) (hsm : M.entries.filter (fun p => decide (p.1 ≤ m)) = sm) {last : Int} (hl : topT sm = last) (h0 : -1 < last) (hlen : (pairsE sm).length ≤ 16777208) {U : Dirc} (hU : FP M T sm last U) :
  ∃ M', MF M' U ∧ M'.dir = M.dir ∧ ∀ k, M'.get k = M.get k := by
 have hmem : ∀ p ∈ sm, p ∈ M.entries ∧ p.1 ≤ m := fun p hp => by rw [← hsm] at hp; have := List.mem_filter.1 hp; exact ⟨this.1, by simpa using this.2⟩
 have hin : ∀ p ∈ M.entries, p.1 ≤ m → p ∈ sm := fun p hp hl => by rw [← hsm]; exact List.mem_filter.2 ⟨hp, by simpa using hl⟩
 have hok : ∀ p ∈ sm, IdOk p.1 ∧ B8 p.2 ∧ p.2.length ≤ 5000 := fun p hp => I.okE p (hmem p hp).1
 obtain ⟨pl, hpl, epl⟩ := top_mem (T := sm) (by rw [hl]; omega)
 rw [hl] at epl
 have hid : IdOk last := by rw [← epl]; exact (hok pl hpl).1
 have hlm : last ≤ m := by rw [← epl]; exact (hmem pl hpl).2
 have hsmle : ∀ p ∈ sm, p.1 ≤ last := fun p hp => by have := le_top hp; rw [hl] at this; exact this
 have hup : UpT sm := by rw [← hsm]; exact filter_up I.upE
 have hDle : ∀ p ∈ M.D, p.1 ≤ last := fun p hp => by
  have hpE : p ∈ M.entries := by
   refine getT_mem (k := p.1) (x := p.2) ?_;rw [I.getE];unfold Meta.get;rw [mem_getT I.upD (show (p.1, p.2) ∈ M.D from hp)]
  have h3 : p.1 ≤ m := by
   have := le_top hp;rw [← I.topFo] at this;omega
  exact hsmle p (hin p hpE h3)
 have hFle : ∀ p ∈ setT last () M.Fo, p.1 ≤ last ∧ IdOk p.1 := fun p hp => by
  rcases (mem_setT I.foUp).1 hp with rfl | ⟨_, hp⟩
  · exact ⟨Int.le_refl _, hid⟩
  · refine ⟨?_, I.foOk p hp⟩
    rcases I.fold with ⟨e, _⟩ | ⟨ht, e⟩
    · rw [e] at hp; cases hp
    · rw [e, List.mem_singleton] at hp;subst hp;obtain ⟨q, hq, e5⟩ := top_mem ht;have := hDle q hq;simp only;omega
 have uniqS : ∀ p ∈ M.S, ∀ q ∈ M.S, p.1 = q.1 → p.2 = q.2 := fun p hp q hq e => by
  have h1 := mem_getT I.upS (show (p.1, p.2) ∈ M.S from hp);have h2 := mem_getT I.upS (show (q.1, q.2) ∈ M.S from hq);rw [e, h2] at h1;exact (Option.some.inj h1).symm
 let fS : Int → Bool := fun n => (getN U (nmI 98 n)).isSome
 let fF : Int → Bool := fun n => (getN U (nmI 102 n)).isSome
 have inS : ∀ p ∈ M.S, ∀ x, (nmI 98 p.1, x) ∈ U → x = packN p.2 := fun p hp x hx => by
  rcases hU.sub _ _ hx with ⟨e, _⟩ | h
  · have := (nmI_inj (by decide) (by decide) (I.okS p hp).1 hid e).1;omega
  · rcases (I.files _ _).1 h with ⟨q, hq, e, e2⟩ | ⟨q, hq, e, _⟩
    · have := (nmI_inj (by decide) (by decide) (I.okS p hp).1 (I.okS q hq).1 e).2;rw [e2, uniqS q hq p hp this.symm]
    · have := (nmI_inj (by decide) (by decide) (I.okS p hp).1 (I.foOk q hq) e).1;omega
 refine ⟨⟨M.dir, M.S.filter fun p => fS p.1, (setT last () M.Fo).filter fun p => fF p.1, sm⟩, ⟨filter_up I.upS, hup, filter_up (setT_up I.foUp), fun p hp => I.okS p (List.mem_filter.1 hp).1, hok, fun p hp => (hFle p (List.mem_filter.1 hp).1).2, hlen, .inr ⟨by rw [hl]; exact h0, ?_, by rw [hl]; exact hU.top⟩, ?_, ?_, ?_⟩, rfl, ?_⟩
 · show topT ((setT last () M.Fo).filter fun p => fF p.1) = topT sm;rw [hl];exact topT_eq h0 (fun p hp => (hFle p (List.mem_filter.1 hp).1).1) ⟨(last, ()), List.mem_filter.2 ⟨(mem_setT I.foUp).2 (.inl rfl), getN_some_of hU.top⟩, rfl⟩
 · intro k x hkx
   rcases hU.sub k x hkx with ⟨e1, e2⟩ | h
   · exact .inr ⟨(last, ()), List.mem_filter.2 ⟨(mem_setT I.foUp).2 (.inl rfl), getN_some_of hU.top⟩, e1⟩
   · rcases (I.files k x).1 h with ⟨p, hp, rfl, rfl⟩ | ⟨p, hp, rfl, rfl⟩
     · exact .inl ⟨p, List.mem_filter.2 ⟨hp, getN_some_of hkx⟩, rfl, rfl⟩
     · by_cases hpl2 : p.1 = last
       · exact .inr ⟨(last, ()), List.mem_filter.2 ⟨(mem_setT I.foUp).2 (.inl rfl), getN_some_of hU.top⟩, by rw [hpl2]⟩
       · exact .inr ⟨p, List.mem_filter.2 ⟨(mem_setT I.foUp).2 (.inr ⟨hpl2, hp⟩), getN_some_of hkx⟩, rfl⟩
 · intro p hp;obtain ⟨h1, h2⟩ := List.mem_filter.1 hp;obtain ⟨y, hy⟩ := Option.isSome_iff_exists.1 h2;have h3 := getN_mem hy;rw [← inS p h1 y h3];exact h3
 · intro p hp;obtain ⟨h1, h2⟩ := List.mem_filter.1 hp;obtain ⟨y, hy⟩ := Option.isSome_iff_exists.1 h2;exact ⟨y, getN_mem hy⟩
 · intro k;have h1 : getT sm k = if decide (k ≤ m) = true then getT M.entries k else none := by
    rw [← hsm];exact getT_filter (fun n => decide (n ≤ m)) _ _
   have h2 : getT (M.S.filter fun p => fS p.1) k = if fS k = true then getT M.S k else none := getT_filter fS _ _
   have e1 : (⟨M.dir, M.S.filter fun p => fS p.1, (setT last () M.Fo).filter fun p => fF p.1, sm⟩ : Meta).get k = match getT sm k with | some b => some b | none => getT (M.S.filter fun p => fS p.1) k := rfl
   rw [e1, h2];by_cases hk : k ≤ last
   · rw [h1, if_pos (by simp; omega), I.getE]
     cases hg : M.get k with
     | some x => rfl
     | none =>
       have : getT M.S k = none := by
        unfold Meta.get at hg
        cases hd : getT M.D k with
        | some b => rw [hd] at hg; cases hg
        | none => rw [hd] at hg; exact hg
       simp only [this];split <;> rfl
   · have hn : getT sm k = none := getT_none.2 fun p hp e => by have := hsmle p hp; omega
     have hd : getT M.D k = none := getT_none.2 fun p hp e => by have := hDle p hp; omega
     rw [hn];simp only [];unfold Meta.get;rw [hd];simp only []
     cases hS : getT M.S k with
     | none => split <;> rfl
     | some x =>
       rw [if_pos];exact getN_some_of (hU.keep (k, x) (getT_mem hS) (by simp only; omega))
end
end AF
namespace AF
open Frame (packN)
open Hex (digs)
section
variable {A : FS} {M : Meta} {T : Dirc}
theorem rem_fz {M1 : Meta} {A1 : FS} {T1 : Dirc} {P : Dirc → Prop} (L : Live (er A1)) (H : Has (er A1) M1.dir T1) (nt : ∀ q ∈ T1, isTmp q.1 = false) (p : Nat → Int → Bool)
  (nS : (M1.S.map (·.1)).Nodup) (idS : ∀ n ∈ M1.S.map (·.1), IdOk n) (hS : ∀ n ∈ M1.S.map (·.1), p 98 n = true → ∃ y, getN T1 (nmI 98 n) = some y)
  (nF : (M1.Fo.map (·.1)).Nodup) (idF : ∀ n ∈ M1.Fo.map (·.1), IdOk n) (hF : ∀ n ∈ M1.Fo.map (·.1), p 102 n = true → ∃ y, getN T1 (nmI 102 n) = some y)
  (D : Dur A1 M1.dir P) (D0 : Dur A1 M1.dir (fun U => U = T1)) (hPS : ∀ V n, n ∈ M1.S.map (·.1) → p 98 n = true → P V → P (delN (nmI 98 n) V)) (hPF : ∀ V n, n ∈ M1.Fo.map (·.1) → p 102 n = true → P V → P (delN (nmI 102 n) V)) :
  (er (M1.remove A1 p).1 = (M1.remove (er A1) p).1 ∧ (M1.remove A1 p).2 = (M1.remove (er A1) p).2 ∧ ∃ T2, Has (er (M1.remove A1 p).1) M1.dir T2 ∧ Dur (M1.remove A1 p).1 M1.dir (fun U => U = T2)) ∨ ((M1.remove A1 p).2.2 = 60 ∧ Dur (M1.remove A1 p).1 M1.dir P) := by
 have G1 := goG_fz M1.dir (.inl rfl) (p 98) (M1.S.map (·.1)) A1 M1.S false T1 L H nS idS hS nt D hPS
 obtain ⟨A2', g2, u2⟩ := goG_ok M1.dir (c := 98) (by decide) (p 98) (M1.S.map (·.1)) (er A1) M1.S false T1 L H nS idS hS
 have F1 := goG_flag M1.dir 98 (p 98) (M1.S.map (·.1)) A1 M1.S false
 unfold Meta.remove
 dsimp only
 generalize goG M1.dir 98 (p 98) (M1.S.map (·.1)) A1 M1.S false = r at G1 F1 ⊢
 rcases G1 with ⟨c1, c2, c3, c4⟩ | ⟨c1, c2⟩
 rotate_left
 · rw [if_pos (show r.2.2.2 ≠ 0 by rw [c1]; decide)];exact .inr ⟨c1, c2⟩
 have hr : goG M1.dir 98 (p 98) (M1.S.map (·.1)) (er A1) M1.S false = (er r.1, r.2) := Prod.ext c2.symm c3.symm
 rw [hr]
 rw [hr] at g2
 have hA2 : er r.1 = A2' := congrArg Prod.fst g2
 rw [← hA2] at u2
 rw [if_neg (show ¬ (r.2.2.2 ≠ 0) by rw [c1]; decide)]
 dsimp only
 rw [if_neg (show ¬ (r.2.2.2 ≠ 0) by rw [c1]; decide)]
 have nt2 : ∀ q ∈ T1.filter (fun q => !((M1.S.map (·.1)).any fun n => p 98 n && decide (q.1 = nmI 98 n))), isTmp q.1 = false := fun q hq => nt q (List.mem_filter.1 hq).1
 have hF2 : ∀ n ∈ M1.Fo.map (·.1), p 102 n = true → ∃ y, getN (T1.filter fun q => !((M1.S.map (·.1)).any fun n => p 98 n && decide (q.1 = nmI 98 n))) (nmI 102 n) = some y := fun n hn hp => by
  obtain ⟨y, hy⟩ := hF n hn hp;refine ⟨y, mem_getN (has_up u2.live u2.here) (List.mem_filter.2 ⟨getN_mem hy, ?_⟩)⟩;simp only [Bool.not_eq_true', List.any_eq_false, Bool.and_eq_true, decide_eq_true_eq];rintro m hm ⟨_, e⟩;have := (nmI_inj (by decide) (by decide) (idF n hn) (idS m hm) e).1;omega
 have G2 := goG_fz M1.dir (.inr rfl) (p 102) (M1.Fo.map (·.1)) r.1 M1.Fo r.2.2.1 _ u2.live u2.here nF idF hF2 nt2 c4 hPF
 obtain ⟨A3', g3, u3⟩ := goG_ok M1.dir (c := 102) (by decide) (p 102) (M1.Fo.map (·.1)) (er r.1) M1.Fo r.2.2.1 _ u2.live u2.here nF idF hF2
 have F2 := goG_flag M1.dir 102 (p 102) (M1.Fo.map (·.1)) r.1 M1.Fo r.2.2.1
 generalize goG M1.dir 102 (p 102) (M1.Fo.map (·.1)) r.1 M1.Fo r.2.2.1 = q at G2 F2 ⊢
 rcases G2 with ⟨d1, d2, d3, d4⟩ | ⟨d1, d2⟩
 rotate_left
 · rw [if_pos (show q.2.2.2 ≠ 0 by rw [d1]; decide)];exact .inr ⟨d1, d2⟩
 have hq : goG M1.dir 102 (p 102) (M1.Fo.map (·.1)) (er r.1) M1.Fo r.2.2.1 = (er q.1, q.2) := Prod.ext d2.symm d3.symm
 rw [hq]
 rw [hq] at g3
 have hA3 : er q.1 = A3' := congrArg Prod.fst g3
 rw [← hA3] at u3
 rw [if_neg (show ¬ (q.2.2.2 ≠ 0) by rw [d1]; decide)]
 dsimp only
 rw [if_neg (show ¬ (q.2.2.2 ≠ 0) by rw [d1]; decide)]
 cases hfl : q.2.2.1 with
 | false =>
   rw [if_neg (by decide), if_neg (by decide)];have e1 : q.1 = r.1 := F2.2 hfl d1;have e2 : r.1 = A1 := F1.2 (F2.1 hfl) c1;refine .inl ⟨rfl, rfl, T1, ?_, ?_⟩
   · show Has (er q.1) M1.dir T1;rw [e1, e2]; exact H
   · show Dur q.1 M1.dir _;rw [e1, e2]; exact D0
 | true =>
   rw [if_pos rfl, if_pos rfl]
   rcases syncDir_fz u3.live u3.here d4 with ⟨s1, s2, s3⟩ | ⟨s1, s2⟩
   · obtain ⟨s4, u4⟩ := syncDir_ok u3.live u3.here;refine .inl ⟨s2, ?_, _, ?_, s3⟩
     · dsimp only;rw [s1, s4]
     · show Has (er (q.1.syncDir M1.dir).1) M1.dir _;rw [s2, unT_id fun x hx => nt2 x (List.mem_filter.1 hx).1];exact u4.here
   · exact .inr ⟨s1, s2⟩
end
end AF
end Go.Proofs.YtibdiikcigokjaaGreatDoor
