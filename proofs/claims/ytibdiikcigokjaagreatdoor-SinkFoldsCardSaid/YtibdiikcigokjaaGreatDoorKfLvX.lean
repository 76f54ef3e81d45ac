/- What a crash may leave of a directory: each of the states since it was last made safe, the files that count being safe. -/
import Derived.Test.YtibdiikcigokjaaGreatDoorKfLv2
import Derived.Test.YtibdiikcigokjaaGreatDoorKfMt6
namespace Go.Proofs.YtibdiikcigokjaaGreatDoor
open Go Go.RowKit
set_option linter.unusedVariables false
set_option linter.unusedSimpArgs false

namespace AF
open Frame (packN)
def unT (T : Dirc) : Dirc := T.filter fun p => !isTmp p.1
def stat (d : Dir) (k : Nat) : Names := play d.base (d.pend.take k)
def safeX (fs : List File) (x : Nat) : Prop := (fs.getD x default).safe = (fs.getD x default).b.length
structure DurD (fs : List File) (d : Dir) (P : Dirc → Prop) : Prop where
  safe : ∀ k, k ≤ d.pend.length → ∀ p ∈ stat d k, isTmp p.1 = true ∨ safeX fs p.2
  good : ∀ k, k ≤ d.pend.length → P (unT (viewD fs (stat d k)))
  apart : ∀ p ∈ d.now, isTmp p.1 = true → ∀ k, k ≤ d.pend.length → ∀ q ∈ stat d k, q.2 = p.2 → isTmp q.1 = true
section
variable {fs gs : List File} {d : Dir} {P Q : Dirc → Prop} {n s : Nat}
theorem stat_last (W : d.WF n s) : stat d d.pend.length = d.now := by unfold stat; rw [List.take_length, W.now]
theorem stat_did (W : d.WF n s) (o : Op) {k : Nat} (hk : k ≤ (d.did o).pend.length) : (k ≤ d.pend.length ∧ stat (d.did o) k = stat d k) ∨ (k = d.pend.length + 1 ∧ stat (d.did o) k = does d.now o) := by
  have hl : (d.did o).pend.length = d.pend.length + 1 := by simp [Dir.did]
  rcases Nat.lt_or_ge k (d.pend.length + 1) with h | h
  · refine .inl ⟨by omega, ?_⟩
    unfold stat Dir.did
    simp only
    rw [List.take_append_of_le_length (by omega)]
  · have hk2 : k = d.pend.length + 1 := by omega
    refine .inr ⟨hk2, ?_⟩
    unfold stat
    rw [hk2, ← hl, List.take_length]
    show play d.base (d.pend ++ [o]) = _
    rw [play_snoc, W.now]
theorem stat_ok (W : d.WF n s) (k : Nat) : Ok n (stat d k) := (W.runs.take k).last
theorem DurD.mono (D : DurD fs d P) (h : ∀ T, P T → Q T) : DurD fs d Q := ⟨D.safe, fun k hk => h _ (D.good k hk), D.apart⟩
theorem unT_congr {l : Names} (h : ∀ p ∈ l, isTmp p.1 = false → (gs.getD p.2 default).b = (fs.getD p.2 default).b) : unT (viewD gs l) = unT (viewD fs l) := by
  unfold unT viewD
  rw [List.filter_map, List.filter_map]
  refine List.map_congr_left fun p hp => ?_
  have := List.mem_filter.1 hp
  rw [h p this.1 (by simpa using this.2)]
/-- Files are changed that count for nothing, or files come. -/
theorem DurD.files (D : DurD fs d P) (h : ∀ k, k ≤ d.pend.length → ∀ p ∈ stat d k, isTmp p.1 = true ∨ gs.getD p.2 default = fs.getD p.2 default) : DurD gs d P := by
  refine ⟨fun k hk p hp => ?_, fun k hk => ?_, D.apart⟩
  · rcases h k hk p hp with h1 | h1
    · exact .inl h1
    · rcases D.safe k hk p hp with h2 | h2
      · exact .inl h2
      · refine .inr ?_
        unfold safeX at h2 ⊢
        rw [h1, h2]
  · rw [unT_congr (fs := fs) fun p hp ht => ?_]
    · exact D.good k hk
    · rcases h k hk p hp with h1 | h1
      · rw [ht] at h1; cases h1
      · rw [h1]
/-- The names change once more. -/
theorem DurD.did (W : d.WF n s) (D : DurD fs d P) {o : Op} (hok : Ok n (does d.now o)) (hs : ∀ p ∈ does d.now o, isTmp p.1 = true ∨ safeX fs p.2) (hg : P (unT (viewD fs (does d.now o))))
    (ha : ∀ p ∈ does d.now o, isTmp p.1 = true → ∀ k, k ≤ d.pend.length → ∀ q ∈ stat d k, q.2 = p.2 → isTmp q.1 = true) : DurD fs (d.did o) P := by
  refine ⟨fun k hk p hp => ?_, fun k hk => ?_, fun p hp ht k hk q hq e => ?_⟩
  · rcases stat_did W o hk with ⟨h1, h2⟩ | ⟨_, h2⟩
    · rw [h2] at hp; exact D.safe k h1 p hp
    · rw [h2] at hp; exact hs p hp
  · rcases stat_did W o hk with ⟨h1, h2⟩ | ⟨_, h2⟩
    · rw [h2]; exact D.good k h1
    · rw [h2]; exact hg
  · rcases stat_did W o hk with ⟨h1, h2⟩ | ⟨_, h2⟩
    · rw [h2] at hq; exact ha p hp ht k h1 q hq e
    · rw [h2] at hq
      have : q = p := by
        have hn := List.pairwise_map.1 hok.once
        by_cases hqp : q = p
        · exact hqp
        · have h1 : (does d.now o).Pairwise fun a b => a ≠ b → a.2 ≠ b.2 := by
            refine List.Pairwise.imp ?_ hn
            intro a b h _
            exact h
          have h3 : (does d.now o).Pairwise fun a b => b ≠ a → b.2 ≠ a.2 := hn.imp fun h _ e => h e.symm
          exact absurd e (List.Pairwise.forall_of_forall_of_flip (R := fun a b : ByteArray × Nat => a ≠ b → a.2 ≠ b.2) (fun x _ h => absurd rfl h) h1 h3 hq hp hqp)
      rw [this]; exact ht
theorem DurD.create (W : d.WF n s) (hn : n = fs.length) (D : DurD fs d P) {t : ByteArray} (ht : isTmp t = true) (hof : of d.now t = none) (hok : Ok (n + 1) (does d.now (.create t n))) : DurD (fs ++ [⟨[], 0⟩]) (d.did (.create t n)) P := by
  have W1 : d.WF (n + 1) s := ⟨W.name, W.now, W.runs.grow (Nat.le_succ _), W.pend⟩
  have old : ∀ k, ∀ p ∈ stat d k, p.2 < n := fun k p hp => ((stat_ok W k).each p hp).1
  have D1 : DurD (fs ++ [⟨[], 0⟩]) d P := D.files fun k hk p hp => .inr (by
    have := old k p hp
    rw [List.getD_eq_getElem?_getD, List.getD_eq_getElem?_getD, List.getElem?_append_left (by omega)])
  have now : ∀ p ∈ d.now, p ∈ stat d d.pend.length := fun p hp => by rw [stat_last W]; exact hp
  have mem : ∀ p ∈ does d.now (.create t n), p = (t, n) ∨ p ∈ d.now := fun p hp => by
    have := ((ins_perm (n := t) (f := n) W.ok.up).mem_iff).1 hp
    rcases List.mem_cons.1 this with h | h
    · exact .inl h
    · exact .inr (mem_filt h)
  refine D1.did W1 hok (fun p hp => ?_) ?_ fun p hp hpt k hk q hq e => ?_
  · rcases mem p hp with rfl | h
    · exact .inl ht
    · exact D1.safe _ (Nat.le_refl _) p (now p h)
  · have h1 := D1.good _ (Nat.le_refl _)
    rw [stat_last W] at h1
    have e : unT (viewD (fs ++ [⟨[], 0⟩]) (does d.now (.create t n))) = unT (viewD (fs ++ [⟨[], 0⟩]) d.now) := by
      show unT (viewD _ (ins t n d.now)) = _
      rw [viewD_ins]
      have hno : getN (viewD (fs ++ [⟨[], 0⟩]) d.now) t = none := by rw [getN_view, hof]; rfl
      generalize viewD (fs ++ [⟨[], 0⟩]) d.now = V at hno
      generalize ((fs ++ [(⟨[], 0⟩ : File)]).getD n default).b = y
      unfold unT
      induction V with
      | nil => simp [setN, ht]
      | cons p V ih =>
        rw [getN_cons] at hno
        split at hno
        · cases hno
        · rename_i hne
          unfold setN
          rw [if_neg hne]
          split
          · rw [List.filter_cons, ht]; rfl
          · rw [List.filter_cons, List.filter_cons (x := p), ih hno]
    rw [e]
    exact h1
  · rcases mem p hp with rfl | h
    · have := old k q hq
      simp only at e
      omega
    · exact D1.apart p h hpt k hk q hq e
theorem setN_front {b : ByteArray} {y : List Nat} : ∀ {V : Dirc}, (∀ q ∈ V, ltB b q.1 = true) → setN b y V = (b, y) :: V
  | [], _ => rfl
  | p :: V, h => by
    have h1 := h p (List.mem_cons_self ..)
    unfold setN
    rw [if_neg (fun e => by rw [e] at h1; exact strLt_irrefl _ h1), if_pos h1]
theorem setN_cons (b : ByteArray) (y : List Nat) (p : ByteArray × List Nat) (U : Dirc) : setN b y (p :: U) = if p.1 = b then (b, y) :: U else if ltB b p.1 then (b, y) :: p :: U else p :: setN b y U := rfl
theorem unT_cons (p : ByteArray × List Nat) (U : Dirc) : unT (p :: U) = if isTmp p.1 = true then unT U else p :: unT U := by
  unfold unT
  rw [List.filter_cons]
  cases isTmp p.1 <;> rfl
theorem unT_set {b : ByteArray} {y : List Nat} (hb : isTmp b = false) : ∀ {U : Dirc}, UpN U → unT (setN b y U) = setN b y (unT U)
  | [], _ => by
    show unT [(b, y)] = [(b, y)]
    rw [unT_cons, if_neg (by simp [hb])]
    rfl
  | p :: U, hu => by
    have hu2 := List.pairwise_cons.1 hu
    have ih := unT_set (y := y) hb hu2.2
    rw [setN_cons]
    by_cases h1 : p.1 = b
    · rw [if_pos h1, unT_cons, if_neg (by simp [hb]), unT_cons, h1, if_neg (by simp [hb]), setN_cons, if_pos h1]
    · rw [if_neg h1]
      by_cases h2 : ltB b p.1 = true
      · rw [if_pos h2, unT_cons, if_neg (by simp [hb]), setN_front fun q hq => ?_]
        rcases List.mem_cons.1 (mem_filt hq) with rfl | h
        · exact h2
        · exact strLt_trans h2 (hu2.1 q h)
      · rw [if_neg h2, unT_cons, unT_cons]
        by_cases h3 : isTmp p.1 = true
        · rw [if_pos h3, if_pos h3]
          exact ih
        · rw [if_neg h3, if_neg h3, setN_cons, if_neg h1, if_neg h2, ih]
theorem DurD.rename (W : d.WF n s) (D : DurD fs d P) {t b : ByteArray} {x : Nat} (ht : isTmp t = true) (hb : isTmp b = false) (hof : of d.now t = some x) (hsf : safeX fs x) (hok : Ok n (does d.now (.rename t b)))
    (hg : P (setN b (fs.getD x default).b (unT (viewD fs d.now)))) : DurD fs (d.did (.rename t b)) P := by
  have now : ∀ p ∈ d.now, p ∈ stat d d.pend.length := fun p hp => by rw [stat_last W]; exact hp
  have hd : does d.now (.rename t b) = ins b x (drop d.now t) := by simp only [does, hof]
  have hup : Up (drop d.now t) := List.Pairwise.filter _ W.ok.up
  have mem : ∀ p ∈ does d.now (.rename t b), p = (b, x) ∨ (p ∈ d.now ∧ p.1 ≠ b ∧ p.1 ≠ t) := fun p hp => by
    rw [hd] at hp
    have := ((ins_perm (n := b) (f := x) hup).mem_iff).1 hp
    rcases List.mem_cons.1 this with h | h
    · exact .inl h
    · have h1 := List.mem_filter.1 h
      have h2 := List.mem_filter.1 h1.1
      exact .inr ⟨h2.1, by simpa using h1.2, by simpa using h2.2⟩
  refine D.did W hok (fun p hp => ?_) ?_ fun p hp hpt k hk q hq e => ?_
  · rcases mem p hp with rfl | ⟨h, _⟩
    · exact .inr hsf
    · exact D.safe _ (Nat.le_refl _) p (now p h)
  · have e : unT (viewD fs (does d.now (.rename t b))) = setN b (fs.getD x default).b (unT (viewD fs d.now)) := by
      rw [hd, viewD_ins, viewD_drop]
      have hV : UpN (viewD fs d.now) := viewD_up W.ok.up
      generalize viewD fs d.now = V at hV
      have e2 : unT (delN t V) = unT V := by
        unfold unT delN
        rw [List.filter_filter]
        refine List.filter_congr fun p _ => ?_
        by_cases h : p.1 = t
        · rw [h, ht]; simp
        · simp [h]
      rw [unT_set hb (show UpN (delN t V) from List.Pairwise.filter _ hV), e2]
    rw [e]
    exact hg
  · rcases mem p hp with rfl | ⟨h, _⟩
    · rw [hb] at hpt; cases hpt
    · exact D.apart p h hpt k hk q hq e
theorem DurD.remove (W : d.WF n s) (D : DurD fs d P) {a : ByteArray} (hok : Ok n (does d.now (.remove a))) (hg : P (unT (viewD fs (drop d.now a)))) : DurD fs (d.did (.remove a)) P := by
  have now : ∀ p ∈ d.now, p ∈ stat d d.pend.length := fun p hp => by rw [stat_last W]; exact hp
  have mem : ∀ p ∈ does d.now (.remove a), p ∈ d.now := fun p hp => mem_filt hp
  refine D.did W hok (fun p hp => D.safe _ (Nat.le_refl _) p (now p (mem p hp))) hg fun p hp hpt k hk q hq e => D.apart p (mem p hp) hpt k hk q hq e
theorem DurD.sync (W : d.WF n s) (D : DurD fs d P) (hg : P (unT (viewD fs d.now))) : DurD fs { d with base := d.now, pend := [] } P := by
  have hk0 : ∀ k, stat { d with base := d.now, pend := [] } k = d.now := fun k => by unfold stat; simp [play]
  refine ⟨fun k hk p hp => ?_, fun k hk => by rw [hk0]; exact hg, fun p hp ht k hk q hq e => ?_⟩
  · rw [hk0] at hp
    exact D.safe _ (Nat.le_refl _) p (by rw [stat_last W]; exact hp)
  · rw [hk0] at hq
    exact D.apart p hp ht _ (Nat.le_refl _) q (by rw [stat_last W]; exact hq) e
end
end AF
end Go.Proofs.YtibdiikcigokjaaGreatDoor

/- Calls with a fuse: done as without one, or not at all; what a crash may leave stays right with each of them. -/
namespace Go.Proofs.YtibdiikcigokjaaGreatDoor
open Go Go.RowKit
set_option linter.unusedVariables false
set_option linter.unusedSimpArgs false

namespace AF
open Frame (packN packN_length packN_B8)
def Dur (A : FS) (dir : ByteArray) (P : Dirc → Prop) : Prop := ∃ (i : Nat) (d : Dir), A.dirs[i]? = some d ∧ d.name = dir ∧ DurD A.files d P
def er (A : FS) : FS := { A with fuse := none }
section
variable {A : FS} {dir t b : ByteArray} {T : Dirc} {P Q : Dirc → Prop}
theorem Dur.mono (D : Dur A dir P) (h : ∀ T, P T → Q T) : Dur A dir Q := let ⟨i, d, h1, h2, h3⟩ := D; ⟨i, d, h1, h2, h3.mono h⟩
theorem dir_uniq (W : A.WF) {i j : Nat} {d e : Dir} (h1 : A.dirs[i]? = some d) (h2 : A.dirs[j]? = some e) (hn : d.name = e.name) : i = j ∧ d = e := by
  have a1 := W.at_of h1
  have a2 := W.at_of h2
  rw [hn, a2] at a1
  cases a1
  rw [h1] at h2
  cases h2
  exact ⟨rfl, rfl⟩
theorem Dur.both (L : Live A) (H : Has A dir T) (D : Dur A dir P) : ∃ (i : Nat) (d : Dir), A.dirs[i]? = some d ∧ d.name = dir ∧ viewD A.files d.now = T ∧ DurD A.files d P := by
  obtain ⟨i, d, h1, h2, h3⟩ := H
  obtain ⟨j, e, g1, g2, g3⟩ := D
  obtain ⟨rfl, rfl⟩ := dir_uniq L.wf h1 g1 (by rw [h2, g2])
  exact ⟨i, d, h1, h2, h3, g3⟩
/-! ### fuses -/
end
end AF
end Go.Proofs.YtibdiikcigokjaaGreatDoor

/- Put and remove with a fuse; crashes; directories opened behind a crash. -/
namespace Go.Proofs.YtibdiikcigokjaaGreatDoor
open Go Go.RowKit
set_option linter.unusedVariables false
set_option linter.unusedSimpArgs false

namespace AF
open Frame (packN packN_length packN_B8)
section
variable {A B : FS} {dir name : ByteArray} {T : Dirc} {P Q : Dirc → Prop} {x : List Nat}
theorem getN_T {T : Dirc} (h : ∀ p ∈ T, isTmp p.1 = false) {t : ByteArray} (ht : isTmp t = true) : getN T t = none := by
  rw [getN_none]
  intro p hp e
  have := h p hp
  rw [e, ht] at this
  cases this
theorem UpN.once {T : Dirc} (h : UpN T) : (T.map (·.1)).Nodup := by
  rw [List.Nodup, List.pairwise_map]
  refine List.Pairwise.imp ?_ h
  intro a b hab e
  rw [← e] at hab
  exact strLt_irrefl a.1 hab
end
end AF
end Go.Proofs.YtibdiikcigokjaaGreatDoor

/- Logs behind crashes: what their files must be; folds with a fuse (plain). -/
namespace Go.Proofs.YtibdiikcigokjaaGreatDoor
open Go Go.RowKit
set_option linter.unusedVariables false
set_option linter.unusedSimpArgs false
namespace AF
open Frame (packN)
open Hex (digs)
/-- What the files of a log's directory must be, for it to open as this log. -/
structure MF (M : Meta) (T : Dirc) : Prop where
  upS : UpT M.S
  upD : UpT M.D
  upF : UpT M.Fo
  okS : ∀ p ∈ M.S, IdOk p.1 ∧ B8 p.2 ∧ p.2.length ≤ 5000
  okD : ∀ p ∈ M.D, IdOk p.1 ∧ B8 p.2 ∧ p.2.length ≤ 5000
  okF : ∀ p ∈ M.Fo, IdOk p.1
  lenD : (pairsE M.D).length ≤ 16777208
  fold : (M.Fo = [] ∧ M.D = []) ∨ (-1 < topT M.D ∧ topT M.Fo = topT M.D ∧ (nmI 102 (topT M.D), packN (pairsE M.D)) ∈ T)
  fromT : ∀ k x, (k, x) ∈ T → (∃ p ∈ M.S, k = nmI 98 p.1 ∧ x = packN p.2) ∨ (∃ p ∈ M.Fo, k = nmI 102 p.1)
  toS : ∀ p ∈ M.S, (nmI 98 p.1, packN p.2) ∈ T
  toF : ∀ p ∈ M.Fo, ∃ x, (nmI 102 p.1, x) ∈ T
section
variable {A : FS} {M : Meta} {T : Dirc}
theorem MInv.mf (I : MInv A M T) : MF M T := by
  refine ⟨I.upS, I.upD, I.foUp, I.okS, I.okD, I.foOk, I.lenD, ?_, fun k x h => ?_, fun p hp => (I.files _ _).2 (.inl ⟨p, hp, rfl, rfl⟩), fun p hp => ⟨_, (I.files _ _).2 (.inr ⟨p, hp, rfl, rfl⟩)⟩⟩
  · rcases I.fold with h | ⟨h1, h2⟩
    · exact .inl h
    · exact .inr ⟨h1, I.topFo, (I.files _ _).2 (.inr ⟨(topT M.D, ()), by rw [h2]; exact List.mem_singleton.2 rfl, rfl, rfl⟩)⟩
  · rcases (I.files k x).1 h with h | ⟨p, hp, e, _⟩
    · exact .inl h
    · exact .inr ⟨p, hp, e⟩
theorem MF.noTmp (I : MF M T) : ∀ p ∈ T, isTmp p.1 = false := fun p hp => by
  rcases I.fromT p.1 p.2 hp with ⟨q, _, e, _⟩ | ⟨q, _, e⟩ <;> rw [e] <;> exact Fnm.nm_tmp (by decide) _
theorem MF.getS (I : MF M T) (L : Live A) (H : Has A M.dir T) {p : Int × List Nat} (hp : p ∈ M.S) : A.get M.dir (nmI 98 p.1) = .ok p.2 :=
  get_ok L H (mem_getN (has_up L H) (I.toS p hp)) (I.okS p hp).2.1 (by have := (I.okS p hp).2.2; omega)
theorem MF.reads (I : MF M T) (L : Live A) (H : Has A M.dir T) : readS A M.dir (M.S.map (·.1)) (M.S.map fun p => (p.1, [])) = .ok M.S := by
  obtain ⟨V, e, hV, hk⟩ := readS_all A M.dir I.upS (fun p hp => I.getS L H hp) (M.S.map (·.1)) (M.S.map fun p => (p.1, [])) (map_up I.upS) fun n hn => hn
  rw [e]
  congr 1
  refine tab_ext2 hV I.upS fun k => ?_
  rw [hk]
  by_cases h : k ∈ M.S.map (·.1)
  · rw [if_pos h]
  · rw [if_neg h]
    have h1 : getT M.S k = none := getT_none.2 fun p hp e => h (List.mem_map.2 ⟨p, hp, e⟩)
    rw [h1, getT_none]
    intro q hq e
    obtain ⟨p, hp, rfl⟩ := List.mem_map.1 hq
    exact h (List.mem_map.2 ⟨p, hp, e⟩)
theorem MF.getE (I : MF M T) (k : Int) : getT M.entries k = M.get k := by
  unfold Meta.entries Meta.get
  rw [getT_copy I.upD]
  cases getT M.D k <;> rfl
theorem MF.upE (I : MF M T) : UpT M.entries := copyT_up I.upS
theorem MF.okE (I : MF M T) : ∀ p ∈ M.entries, IdOk p.1 ∧ B8 p.2 ∧ p.2.length ≤ 5000 := by
  rintro ⟨k, x⟩ hp
  have h := mem_getT I.upE hp
  rw [I.getE] at h
  unfold Meta.get at h
  cases hd : getT M.D k with
  | some b => rw [hd] at h; cases h; exact I.okD _ (getT_mem hd)
  | none => rw [hd] at h; exact I.okS _ (getT_mem h)
end
end AF
end Go.Proofs.YtibdiikcigokjaaGreatDoor

/- Put and Fold of a log, with a fuse (plain). -/
namespace Go.Proofs.YtibdiikcigokjaaGreatDoor
open Go Go.RowKit
set_option linter.unusedVariables false
set_option linter.unusedSimpArgs false
namespace AF
open Frame (packN)
open Hex (digs)
section
variable {A : FS} {M : Meta} {T : Dirc}
theorem MInv.plain (I : MInv A M T) : ∀ p ∈ T, isTmp p.1 = false := I.mf.noTmp
theorem get_putM {M : Meta} {id : Int} {bs : List Nat} (hg : M.get id = none) (k : Int) : ({ M with S := setT id bs M.S } : Meta).get k = if k = id then some bs else M.get k := by
  unfold Meta.get at hg ⊢
  cases hd : getT M.D id with
  | some b => rw [hd] at hg; cases hg
  | none =>
    by_cases h : k = id
    · subst h
      rw [if_pos rfl]
      simp only [hd]
      exact getT_set_self _ _ _
    · rw [if_neg h]
      simp only [getT_set_ne _ (Ne.symm h)]
end
end AF
end Go.Proofs.YtibdiikcigokjaaGreatDoor

/- Fold of a log, with a fuse (plain). -/
namespace Go.Proofs.YtibdiikcigokjaaGreatDoor
open Go Go.RowKit
set_option linter.unusedVariables false
set_option linter.unusedSimpArgs false
namespace AF
open Frame (packN)
open Hex (digs)
section
variable {A : FS} {M : Meta} {T : Dirc}
end
end AF
end Go.Proofs.YtibdiikcigokjaaGreatDoor
