/- Logs behind crashes: what their files must be; folds with a fuse (plain). -/
import Derived.Test.YticjjdhaikbdaaaGreatMkMt6
import Derived.Test.YticjjdhaikbdaaaGreatMkLvX
namespace Go.Proofs.YticjjdhaikbdaaaGreat
open Go Go.RowKit
set_option linter.unusedVariables false
set_option linter.unusedSimpArgs false
namespace AF
open Frame (packN)
open Hex (digs)
/-- What the files of a log's directory must be, for it to open as this log. -/
structure MF (M : Meta) (T : Dirc) : Prop where
  upS : UpT M.S
  upD : UpT M.D
  upF : UpT M.Fo
  okS : ∀ p ∈ M.S, IdOk p.1 ∧ B8 p.2 ∧ p.2.length ≤ 5000
  okD : ∀ p ∈ M.D, IdOk p.1 ∧ B8 p.2 ∧ p.2.length ≤ 5000
  okF : ∀ p ∈ M.Fo, IdOk p.1
  lenD : (pairsE M.D).length ≤ 16777208
  fold : (M.Fo = [] ∧ M.D = []) ∨ (-1 < topT M.D ∧ topT M.Fo = topT M.D ∧ (nmI 102 (topT M.D), packN (pairsE M.D)) ∈ T)
  fromT : ∀ k x, (k, x) ∈ T → (∃ p ∈ M.S, k = nmI 98 p.1 ∧ x = packN p.2) ∨ (∃ p ∈ M.Fo, k = nmI 102 p.1)
  toS : ∀ p ∈ M.S, (nmI 98 p.1, packN p.2) ∈ T
  toF : ∀ p ∈ M.Fo, ∃ x, (nmI 102 p.1, x) ∈ T
section
variable {A : FS} {M : Meta} {T : Dirc}
theorem MInv.mf (I : MInv A M T) : MF M T := by
  refine ⟨I.upS, I.upD, I.foUp, I.okS, I.okD, I.foOk, I.lenD, ?_, fun k x h => ?_, fun p hp => (I.files _ _).2 (.inl ⟨p, hp, rfl, rfl⟩), fun p hp => ⟨_, (I.files _ _).2 (.inr ⟨p, hp, rfl, rfl⟩)⟩⟩
  · rcases I.fold with h | ⟨h1, h2⟩
    · exact .inl h
    · exact .inr ⟨h1, I.topFo, (I.files _ _).2 (.inr ⟨(topT M.D, ()), by rw [h2]; exact List.mem_singleton.2 rfl, rfl, rfl⟩)⟩
  · rcases (I.files k x).1 h with h | ⟨p, hp, e, _⟩
    · exact .inl h
    · exact .inr ⟨p, hp, e⟩
theorem MF.noTmp (I : MF M T) : ∀ p ∈ T, isTmp p.1 = false := fun p hp => by
  rcases I.fromT p.1 p.2 hp with ⟨q, _, e, _⟩ | ⟨q, _, e⟩ <;> rw [e] <;> exact Fnm.nm_tmp (by decide) _
theorem MF.scan (I : MF M T) : scanNames (T.map (·.1)) = (M.S.map (fun p => (p.1, [])), M.Fo) := by
  obtain ⟨a1, a2, a3, a4, a5⟩ := scan_inv (T.map (·.1)) ([], []) List.Pairwise.nil List.Pairwise.nil (by simp)
  have k98 : ∀ n, (∃ s ∈ T.map (·.1), kindN s = some (98, n)) ↔ ∃ p ∈ M.S, p.1 = n := fun n => by
    constructor
    · rintro ⟨s, hs, hk⟩
      obtain ⟨q, hq, rfl⟩ := List.mem_map.1 hs
      rcases I.fromT q.1 q.2 hq with ⟨p, hp, e, _⟩ | ⟨p, hp, e⟩
      · rw [e, kindN_nm (.inl rfl) (I.okS p hp).1] at hk
        cases hk
        exact ⟨p, hp, rfl⟩
      · rw [e, kindN_nm (.inr rfl) (I.okF p hp)] at hk
        cases hk
    · rintro ⟨p, hp, rfl⟩
      exact ⟨_, List.mem_map.2 ⟨_, I.toS p hp, rfl⟩, kindN_nm (.inl rfl) (I.okS p hp).1⟩
  have k102 : ∀ n, (∃ s ∈ T.map (·.1), ∃ c, c ≠ 98 ∧ kindN s = some (c, n)) ↔ ∃ p ∈ M.Fo, p.1 = n := fun n => by
    constructor
    · rintro ⟨s, hs, c, hc, hk⟩
      obtain ⟨q, hq, rfl⟩ := List.mem_map.1 hs
      rcases I.fromT q.1 q.2 hq with ⟨p, hp, e, _⟩ | ⟨p, hp, e⟩
      · rw [e, kindN_nm (.inl rfl) (I.okS p hp).1] at hk
        cases hk
        exact absurd rfl hc
      · rw [e, kindN_nm (.inr rfl) (I.okF p hp)] at hk
        cases hk
        exact ⟨p, hp, rfl⟩
    · rintro ⟨p, hp, rfl⟩
      obtain ⟨x, hx⟩ := I.toF p hp
      exact ⟨_, List.mem_map.2 ⟨_, hx, rfl⟩, 102, by decide, kindN_nm (.inr rfl) (I.okF p hp)⟩
  unfold scanNames
  refine Prod.ext (tab_ext a1 (map_up I.upS) fun p => ?_) (tab_ext a2 I.upF fun p => ?_)
  · obtain ⟨n, x⟩ := p
    constructor
    · intro hp
      have h1 := a3 _ hp
      have h2 := (a4 n).1 (List.mem_map.2 ⟨_, hp, rfl⟩)
      rcases h2 with h2 | h2
      · cases h2
      · obtain ⟨p, hp2, rfl⟩ := (k98 n).1 h2
        simp only at h1
        subst h1
        exact List.mem_map.2 ⟨p, hp2, rfl⟩
    · intro hp
      obtain ⟨q, hq, e⟩ := List.mem_map.1 hp
      cases e
      have := (a4 q.1).2 (.inr ((k98 q.1).2 ⟨q, hq, rfl⟩))
      obtain ⟨r, hr, e⟩ := List.mem_map.1 this
      have h3 := a3 _ hr
      obtain ⟨r1, r2⟩ := r
      simp only at e h3
      subst e h3
      exact hr
  · obtain ⟨n, ⟨⟩⟩ := p
    constructor
    · intro hp
      rcases (a5 n).1 (List.mem_map.2 ⟨_, hp, rfl⟩) with h2 | h2
      · cases h2
      · obtain ⟨p, hp2, rfl⟩ := (k102 n).1 h2
        exact hp2
    · intro hp
      have := (a5 n).2 (.inr ((k102 n).2 ⟨_, hp, rfl⟩))
      obtain ⟨r, hr, e⟩ := List.mem_map.1 this
      obtain ⟨r1, ⟨⟩⟩ := r
      simp only at e
      subst e
      exact hr
theorem MF.getS (I : MF M T) (L : Live A) (H : Has A M.dir T) {p : Int × List Nat} (hp : p ∈ M.S) : A.get M.dir (nmI 98 p.1) = .ok p.2 :=
  get_ok L H (mem_getN (has_up L H) (I.toS p hp)) (I.okS p hp).2.1 (by have := (I.okS p hp).2.2; omega)
theorem MF.reads (I : MF M T) (L : Live A) (H : Has A M.dir T) : readS A M.dir (M.S.map (·.1)) (M.S.map fun p => (p.1, [])) = .ok M.S := by
  obtain ⟨V, e, hV, hk⟩ := readS_all A M.dir I.upS (fun p hp => I.getS L H hp) (M.S.map (·.1)) (M.S.map fun p => (p.1, [])) (map_up I.upS) fun n hn => hn
  rw [e]
  congr 1
  refine tab_ext2 hV I.upS fun k => ?_
  rw [hk]
  by_cases h : k ∈ M.S.map (·.1)
  · rw [if_pos h]
  · rw [if_neg h]
    have h1 : getT M.S k = none := getT_none.2 fun p hp e => h (List.mem_map.2 ⟨p, hp, e⟩)
    rw [h1, getT_none]
    intro q hq e
    obtain ⟨p, hp, rfl⟩ := List.mem_map.1 hq
    exact h (List.mem_map.2 ⟨p, hp, e⟩)
theorem MF.getF (I : MF M T) (L : Live A) (H : Has A M.dir T) (h : (nmI 102 (topT M.D), packN (pairsE M.D)) ∈ T) : A.get M.dir (nmI 102 (topT M.D)) = .ok (pairsE M.D) :=
  get_ok L H (mem_getN (has_up L H) h) (pairsE_B8 fun q hq => (I.okD q hq).2.1) I.lenD
theorem MF.getE (I : MF M T) (k : Int) : getT M.entries k = M.get k := by
  unfold Meta.entries Meta.get
  rw [getT_copy I.upD]
  cases getT M.D k <;> rfl
theorem MF.upE (I : MF M T) : UpT M.entries := copyT_up I.upS
theorem MF.okE (I : MF M T) : ∀ p ∈ M.entries, IdOk p.1 ∧ B8 p.2 ∧ p.2.length ≤ 5000 := by
  rintro ⟨k, x⟩ hp
  have h := mem_getT I.upE hp
  rw [I.getE] at h
  unfold Meta.get at h
  cases hd : getT M.D k with
  | some b => rw [hd] at h; cases h; exact I.okD _ (getT_mem hd)
  | none => rw [hd] at h; exact I.okS _ (getT_mem h)
end
/-- Files removed, with a fuse. -/
theorem goG_fz {α : Type} {P : Dirc → Prop} (dir : ByteArray) {c : Nat} (hc : c = 98 ∨ c = 102) (p : Int → Bool) : ∀ (l : List Int) (A : FS) (T : List (Int × α)) (s : Bool) (U : Dirc), Live (er A) → Has (er A) dir U → l.Nodup → (∀ n ∈ l, IdOk n) → (∀ n ∈ l, p n = true → ∃ y, getN U (nmI c n) = some y) → (∀ q ∈ U, isTmp q.1 = false) →
    Dur A dir P → (∀ V n, n ∈ l → p n = true → P V → P (delN (nmI c n) V)) →
    ((goG dir c p l A T s).2.2.2 = 0 ∧ er (goG dir c p l A T s).1 = (goG dir c p l (er A) T s).1 ∧ (goG dir c p l A T s).2 = (goG dir c p l (er A) T s).2 ∧ Dur (goG dir c p l A T s).1 dir P) ∨
    ((goG dir c p l A T s).2.2.2 = 60 ∧ Dur (goG dir c p l A T s).1 dir P)
  | [], A, T, s, U, L, H, hn, hi, hg, ht, D, hP => .inl ⟨rfl, rfl, rfl, D⟩
  | n :: l, A, T, s, U, L, H, hn, hi, hg, ht, D, hP => by
    have hn2 := List.nodup_cons.1 hn
    unfold goG
    by_cases hp : p n = true
    · rw [if_pos hp, if_pos hp]
      obtain ⟨y, hy⟩ := hg n (List.mem_cons_self ..) hp
      obtain ⟨e, u⟩ := remove_ok L H hy
      rw [if_pos e]
      have hdel : ∀ q ∈ delN (nmI c n) U, isTmp q.1 = false := fun q hq => ht q (List.mem_filter.1 hq).1
      have hPU : P (unT (delN (nmI c n) U)) := by
        rw [unT_id hdel]
        refine hP U n (List.mem_cons_self ..) hp ?_
        obtain ⟨i, d, hd, hdn, hv, D'⟩ := Dur.both (A := er A) L H D
        have h1 := D'.good _ (Nat.le_refl _)
        rw [stat_last (L.wf.each d (List.mem_of_getElem? hd)), hv, unT_id ht] at h1
        exact h1
      rcases remove_fz L H hy D hPU with ⟨h1, h2, h3⟩ | ⟨h1, h2⟩
      · rw [if_pos h1]
        rw [← h2] at u
        have hc256 : c < 256 := by omega
        have := goG_fz dir hc p l (A.remove dir (nmI c n)).1 (delT n T) true _ u.live u.here hn2.2 (fun m hm => hi m (List.mem_cons_of_mem _ hm)) (fun m hm hpm => by
          obtain ⟨z, hz⟩ := hg m (List.mem_cons_of_mem _ hm) hpm
          refine ⟨z, ?_⟩
          rw [getN_del_ne (fun e2 => hn2.1 ?_)]
          · exact hz
          · have := (nmI_inj hc256 hc256 (hi n (List.mem_cons_self ..)) (hi m (List.mem_cons_of_mem _ hm)) e2).2
            rw [this]
            exact hm) hdel h3 (fun V m hm hpm hV => hP V m (List.mem_cons_of_mem _ hm) hpm hV)
        rw [h2] at this
        exact this
      · rw [if_neg (by rw [h1]; decide)]
        exact .inr ⟨h1, h2⟩
    · rw [if_neg hp, if_neg hp]
      exact goG_fz dir hc p l A T s U L H hn2.2 (fun m hm => hi m (List.mem_cons_of_mem _ hm)) (fun m hm hpm => hg m (List.mem_cons_of_mem _ hm) hpm) ht D (fun V m hm hpm hV => hP V m (List.mem_cons_of_mem _ hm) hpm hV)
theorem goG_flag {α : Type} (dir : ByteArray) (c : Nat) (p : Int → Bool) : ∀ (l : List Int) (A : FS) (T : List (Int × α)) (s : Bool), ((goG dir c p l A T s).2.2.1 = false → s = false) ∧ ((goG dir c p l A T s).2.2.1 = false → (goG dir c p l A T s).2.2.2 = 0 → (goG dir c p l A T s).1 = A)
  | [], A, T, s => ⟨fun h => h, fun _ _ => rfl⟩
  | n :: l, A, T, s => by
    unfold goG
    by_cases hp : p n = true
    · rw [if_pos hp]
      by_cases he : (A.remove dir (nmI c n)).2 = 0
      · rw [if_pos he]
        have := goG_flag dir c p l (A.remove dir (nmI c n)).1 (delT n T) true
        exact ⟨(fun h => by cases this.1 h), (fun h _ => by cases this.1 h)⟩
      · rw [if_neg he]
        exact ⟨fun h => h, fun _ h => absurd h he⟩
    · rw [if_neg hp]
      exact goG_flag dir c p l A T s
end AF
end Go.Proofs.YticjjdhaikbdaaaGreat

/- Put and Fold of a log, with a fuse (plain). -/
namespace Go.Proofs.YticjjdhaikbdaaaGreat
open Go Go.RowKit
set_option linter.unusedVariables false
set_option linter.unusedSimpArgs false
namespace AF
open Frame (packN)
open Hex (digs)
section
variable {A : FS} {M : Meta} {T : Dirc}
theorem Has.uniq {A : FS} {dir : ByteArray} {T U : Dirc} (W : A.WF) (h1 : Has A dir T) (h2 : Has A dir U) : T = U := by
  obtain ⟨i, d, a1, a2, a3⟩ := h1
  obtain ⟨j, e, b1, b2, b3⟩ := h2
  obtain ⟨rfl, rfl⟩ := dir_uniq W a1 b1 (by rw [a2, b2])
  rw [← a3, ← b3]
theorem MInv.plain (I : MInv A M T) : ∀ p ∈ T, isTmp p.1 = false := I.mf.noTmp
theorem get_putM {M : Meta} {id : Int} {bs : List Nat} (hg : M.get id = none) (k : Int) : ({ M with S := setT id bs M.S } : Meta).get k = if k = id then some bs else M.get k := by
  unfold Meta.get at hg ⊢
  cases hd : getT M.D id with
  | some b => rw [hd] at hg; cases hg
  | none =>
    by_cases h : k = id
    · subst h
      rw [if_pos rfl]
      simp only [hd]
      exact getT_set_self _ _ _
    · rw [if_neg h]
      simp only [getT_set_ne _ (Ne.symm h)]
theorem put_fzM (I : MInv (er A) M T) (D : Dur A M.dir (fun U => U = T)) {id : Int} {b : List Nat} (hid : IdOk id) (hg : M.get id = none) (h8 : B8 b) (hb : b.length ≤ 5000) (hu : A.used + (8 + b.length) ≤ A.room) (hf : M.S.length < 4000) :
    (∃ A' T', M.put A id b = (A', { M with S := setT id b M.S }, 0) ∧ MInv (er A') { M with S := setT id b M.S } T' ∧ Upd 0 (8 + b.length) 5 (er A) (er A') M.dir T' ∧ Dur A' M.dir (fun U => U = T')) ∨
    ((M.put A id b).2.2 = 60 ∧ Dur (M.put A id b).1 M.dir (fun U => ∃ M', MF M' U ∧ M'.dir = M.dir ∧ ((∀ k, M'.get k = M.get k) ∨ ∀ k, M'.get k = if k = id then some b else M.get k))) := by
  have hfo : M.Fo.length ≤ 1 := by rcases I.fold with ⟨e, _⟩ | ⟨_, e⟩ <;> rw [e] <;> simp
  have hlT : T.length < 4096 := by have := I.few; omega
  have hr : right (nmI 98 id) = true := Fnm.nm_right (by decide) (by decide) _
  have hs : (nmI 98 id).size ≤ 28 := by unfold nmI; rw [Fnm.nm_size]; decide
  obtain ⟨A', T', e, I', u⟩ := I.put hid hg h8 hb hu hf
  obtain ⟨e1, u1⟩ := put_ok (name := nmI 98 id) (x := b) I.live I.has hr hs (I.noTmp _) hlT h8 (by omega) hu
  have hM : ∀ B : FS, M.put B id b = if (B.put M.dir (nmI 98 id) b).2 = 0 then ((B.put M.dir (nmI 98 id) b).1, { M with S := setT id b M.S }, 0) else ((B.put M.dir (nmI 98 id) b).1, M, (B.put M.dir (nmI 98 id) b).2) := fun B => by
    unfold Meta.put
    rw [if_neg (by have := hid.1; have := hid.2; omega), hg]
  rw [hM, if_pos e1] at e
  have eA : A' = ((er A).put M.dir (nmI 98 id) b).1 := (congrArg Prod.fst e).symm
  have eT : T' = setN (nmI 98 id) (packN b) T := Has.uniq I'.live.wf I'.has (by rw [eA]; exact u1.here)
  have P2 : ∀ U, U = T ∨ U = T' → ∃ M', MF M' U ∧ M'.dir = M.dir ∧ ((∀ k, M'.get k = M.get k) ∨ ∀ k, M'.get k = if k = id then some b else M.get k) := by
    rintro U (rfl | rfl)
    · exact ⟨M, I.mf, rfl, .inl fun _ => rfl⟩
    · exact ⟨_, I'.mf, rfl, .inr (get_putM hg)⟩
  rw [hM]
  rcases put_fz (P := fun U => U = T ∨ U = T') I.live I.has I.plain hr hs (Fnm.nm_tmp (by decide) _) hlT h8 (by omega) hu (D.mono fun _ h => .inl h) (.inr eT.symm) with ⟨h1, h2, h3⟩ | ⟨h1, h2⟩
  · refine .inl ⟨_, T', by rw [if_pos h1], ?_, ?_, ?_⟩
    · rw [h2, ← eA]; exact I'
    · rw [h2, ← eA]; exact u
    · rw [eT]; exact h3
  · rw [if_neg (by rw [h1]; decide)]
    exact .inr ⟨h1, h2.mono P2⟩
structure FP (M : Meta) (T : Dirc) (sm : Ent) (last : Int) (U : Dirc) : Prop where
  sub : ∀ k x, (k, x) ∈ U → (k = nmI 102 last ∧ x = packN (pairsE sm)) ∨ (k, x) ∈ T
  top : (nmI 102 last, packN (pairsE sm)) ∈ U
  keep : ∀ p ∈ M.S, last < p.1 → (nmI 98 p.1, packN p.2) ∈ U
theorem topT_eq {α : Type} {F : List (Int × α)} {k : Int} (hk : -1 < k) (h1 : ∀ p ∈ F, p.1 ≤ k) (h2 : ∃ p ∈ F, p.1 = k) : topT F = k := by
  obtain ⟨p, hp, e⟩ := h2
  have a := le_top hp
  obtain ⟨q, hq, e2⟩ := top_mem (T := F) (by omega)
  have := h1 q hq
  omega
theorem getN_some_of {U : Dirc} {k : ByteArray} {x : List Nat} (h : (k, x) ∈ U) : (getN U k).isSome = true := by
  cases hg : getN U k with
  | none => exact absurd rfl (getN_none.1 hg _ h)
  | some y => rfl
theorem fp_mf (I : MInv A M T) {m : Int} (hm : topT M.Fo ≤ m) (sm : Ent) (hsm : M.entries.filter (fun p => decide (p.1 ≤ m)) = sm) {last : Int} (hl : topT sm = last) (h0 : -1 < last) (hlen : (pairsE sm).length ≤ 16777208) {U : Dirc} (hU : FP M T sm last U) :
    ∃ M', MF M' U ∧ M'.dir = M.dir ∧ ∀ k, M'.get k = M.get k := by
  have hmem : ∀ p ∈ sm, p ∈ M.entries ∧ p.1 ≤ m := fun p hp => by rw [← hsm] at hp; have := List.mem_filter.1 hp; exact ⟨this.1, by simpa using this.2⟩
  have hin : ∀ p ∈ M.entries, p.1 ≤ m → p ∈ sm := fun p hp hl => by rw [← hsm]; exact List.mem_filter.2 ⟨hp, by simpa using hl⟩
  have hok : ∀ p ∈ sm, IdOk p.1 ∧ B8 p.2 ∧ p.2.length ≤ 5000 := fun p hp => I.okE p (hmem p hp).1
  obtain ⟨pl, hpl, epl⟩ := top_mem (T := sm) (by rw [hl]; omega)
  rw [hl] at epl
  have hid : IdOk last := by rw [← epl]; exact (hok pl hpl).1
  have hlm : last ≤ m := by rw [← epl]; exact (hmem pl hpl).2
  have hsmle : ∀ p ∈ sm, p.1 ≤ last := fun p hp => by have := le_top hp; rw [hl] at this; exact this
  have hup : UpT sm := by rw [← hsm]; exact filter_up I.upE
  have hDle : ∀ p ∈ M.D, p.1 ≤ last := fun p hp => by
    have hpE : p ∈ M.entries := by
      refine getT_mem (k := p.1) (x := p.2) ?_
      rw [I.getE]
      unfold Meta.get
      rw [mem_getT I.upD (show (p.1, p.2) ∈ M.D from hp)]
    have h3 : p.1 ≤ m := by
      have := le_top hp
      rw [← I.topFo] at this
      omega
    exact hsmle p (hin p hpE h3)
  have hFle : ∀ p ∈ setT last () M.Fo, p.1 ≤ last ∧ IdOk p.1 := fun p hp => by
    rcases (mem_setT I.foUp).1 hp with rfl | ⟨_, hp⟩
    · exact ⟨Int.le_refl _, hid⟩
    · refine ⟨?_, I.foOk p hp⟩
      rcases I.fold with ⟨e, _⟩ | ⟨ht, e⟩
      · rw [e] at hp; cases hp
      · rw [e, List.mem_singleton] at hp
        subst hp
        obtain ⟨q, hq, e5⟩ := top_mem ht
        have := hDle q hq
        simp only
        omega
  have uniqS : ∀ p ∈ M.S, ∀ q ∈ M.S, p.1 = q.1 → p.2 = q.2 := fun p hp q hq e => by
    have h1 := mem_getT I.upS (show (p.1, p.2) ∈ M.S from hp)
    have h2 := mem_getT I.upS (show (q.1, q.2) ∈ M.S from hq)
    rw [e, h2] at h1
    exact (Option.some.inj h1).symm
  let fS : Int → Bool := fun n => (getN U (nmI 98 n)).isSome
  let fF : Int → Bool := fun n => (getN U (nmI 102 n)).isSome
  have inS : ∀ p ∈ M.S, ∀ x, (nmI 98 p.1, x) ∈ U → x = packN p.2 := fun p hp x hx => by
    rcases hU.sub _ _ hx with ⟨e, _⟩ | h
    · have := (nmI_inj (by decide) (by decide) (I.okS p hp).1 hid e).1
      omega
    · rcases (I.files _ _).1 h with ⟨q, hq, e, e2⟩ | ⟨q, hq, e, _⟩
      · have := (nmI_inj (by decide) (by decide) (I.okS p hp).1 (I.okS q hq).1 e).2
        rw [e2, uniqS q hq p hp this.symm]
      · have := (nmI_inj (by decide) (by decide) (I.okS p hp).1 (I.foOk q hq) e).1
        omega
  refine ⟨⟨M.dir, M.S.filter fun p => fS p.1, (setT last () M.Fo).filter fun p => fF p.1, sm⟩, ⟨filter_up I.upS, hup, filter_up (setT_up I.foUp), fun p hp => I.okS p (List.mem_filter.1 hp).1, hok, fun p hp => (hFle p (List.mem_filter.1 hp).1).2, hlen, .inr ⟨by rw [hl]; exact h0, ?_, by rw [hl]; exact hU.top⟩, ?_, ?_, ?_⟩, rfl, ?_⟩
  · show topT ((setT last () M.Fo).filter fun p => fF p.1) = topT sm
    rw [hl]
    exact topT_eq h0 (fun p hp => (hFle p (List.mem_filter.1 hp).1).1) ⟨(last, ()), List.mem_filter.2 ⟨(mem_setT I.foUp).2 (.inl rfl), getN_some_of hU.top⟩, rfl⟩
  · intro k x hkx
    rcases hU.sub k x hkx with ⟨e1, e2⟩ | h
    · exact .inr ⟨(last, ()), List.mem_filter.2 ⟨(mem_setT I.foUp).2 (.inl rfl), getN_some_of hU.top⟩, e1⟩
    · rcases (I.files k x).1 h with ⟨p, hp, rfl, rfl⟩ | ⟨p, hp, rfl, rfl⟩
      · exact .inl ⟨p, List.mem_filter.2 ⟨hp, getN_some_of hkx⟩, rfl, rfl⟩
      · by_cases hpl2 : p.1 = last
        · exact .inr ⟨(last, ()), List.mem_filter.2 ⟨(mem_setT I.foUp).2 (.inl rfl), getN_some_of hU.top⟩, by rw [hpl2]⟩
        · exact .inr ⟨p, List.mem_filter.2 ⟨(mem_setT I.foUp).2 (.inr ⟨hpl2, hp⟩), getN_some_of hkx⟩, rfl⟩
  · intro p hp
    obtain ⟨h1, h2⟩ := List.mem_filter.1 hp
    obtain ⟨y, hy⟩ := Option.isSome_iff_exists.1 h2
    have h3 := getN_mem hy
    rw [← inS p h1 y h3]
    exact h3
  · intro p hp
    obtain ⟨h1, h2⟩ := List.mem_filter.1 hp
    obtain ⟨y, hy⟩ := Option.isSome_iff_exists.1 h2
    exact ⟨y, getN_mem hy⟩
  · intro k
    have h1 : getT sm k = if decide (k ≤ m) = true then getT M.entries k else none := by
      rw [← hsm]
      exact getT_filter (fun n => decide (n ≤ m)) _ _
    have h2 : getT (M.S.filter fun p => fS p.1) k = if fS k = true then getT M.S k else none := getT_filter fS _ _
    have e1 : (⟨M.dir, M.S.filter fun p => fS p.1, (setT last () M.Fo).filter fun p => fF p.1, sm⟩ : Meta).get k = match getT sm k with | some b => some b | none => getT (M.S.filter fun p => fS p.1) k := rfl
    rw [e1, h2]
    by_cases hk : k ≤ last
    · rw [h1, if_pos (by simp; omega), I.getE]
      cases hg : M.get k with
      | some x => rfl
      | none =>
        have : getT M.S k = none := by
          unfold Meta.get at hg
          cases hd : getT M.D k with
          | some b => rw [hd] at hg; cases hg
          | none => rw [hd] at hg; exact hg
        simp only [this]
        split <;> rfl
    · have hn : getT sm k = none := getT_none.2 fun p hp e => by have := hsmle p hp; omega
      have hd : getT M.D k = none := getT_none.2 fun p hp e => by have := hDle p hp; omega
      rw [hn]
      simp only []
      unfold Meta.get
      rw [hd]
      simp only []
      cases hS : getT M.S k with
      | none => split <;> rfl
      | some x =>
        rw [if_pos]
        exact getN_some_of (hU.keep (k, x) (getT_mem hS) (by simp only; omega))
end
end AF
end Go.Proofs.YticjjdhaikbdaaaGreat

/- Fold of a log, with a fuse (plain). -/
namespace Go.Proofs.YticjjdhaikbdaaaGreat
open Go Go.RowKit
set_option linter.unusedVariables false
set_option linter.unusedSimpArgs false
namespace AF
open Frame (packN)
open Hex (digs)
section
variable {A : FS} {M : Meta} {T : Dirc}
theorem rem_fz {M1 : Meta} {A1 : FS} {T1 : Dirc} {P : Dirc → Prop} (L : Live (er A1)) (H : Has (er A1) M1.dir T1) (nt : ∀ q ∈ T1, isTmp q.1 = false) (p : Nat → Int → Bool)
    (nS : (M1.S.map (·.1)).Nodup) (idS : ∀ n ∈ M1.S.map (·.1), IdOk n) (hS : ∀ n ∈ M1.S.map (·.1), p 98 n = true → ∃ y, getN T1 (nmI 98 n) = some y)
    (nF : (M1.Fo.map (·.1)).Nodup) (idF : ∀ n ∈ M1.Fo.map (·.1), IdOk n) (hF : ∀ n ∈ M1.Fo.map (·.1), p 102 n = true → ∃ y, getN T1 (nmI 102 n) = some y)
    (D : Dur A1 M1.dir P) (D0 : Dur A1 M1.dir (fun U => U = T1)) (hPS : ∀ V n, n ∈ M1.S.map (·.1) → p 98 n = true → P V → P (delN (nmI 98 n) V)) (hPF : ∀ V n, n ∈ M1.Fo.map (·.1) → p 102 n = true → P V → P (delN (nmI 102 n) V)) :
    (er (M1.remove A1 p).1 = (M1.remove (er A1) p).1 ∧ (M1.remove A1 p).2 = (M1.remove (er A1) p).2 ∧ ∃ T2, Has (er (M1.remove A1 p).1) M1.dir T2 ∧ Dur (M1.remove A1 p).1 M1.dir (fun U => U = T2)) ∨ ((M1.remove A1 p).2.2 = 60 ∧ Dur (M1.remove A1 p).1 M1.dir P) := by
  have G1 := goG_fz M1.dir (.inl rfl) (p 98) (M1.S.map (·.1)) A1 M1.S false T1 L H nS idS hS nt D hPS
  obtain ⟨A2', g2, u2⟩ := goG_ok M1.dir (c := 98) (by decide) (p 98) (M1.S.map (·.1)) (er A1) M1.S false T1 L H nS idS hS
  have F1 := goG_flag M1.dir 98 (p 98) (M1.S.map (·.1)) A1 M1.S false
  unfold Meta.remove
  dsimp only
  generalize goG M1.dir 98 (p 98) (M1.S.map (·.1)) A1 M1.S false = r at G1 F1 ⊢
  rcases G1 with ⟨c1, c2, c3, c4⟩ | ⟨c1, c2⟩
  rotate_left
  · rw [if_pos (show r.2.2.2 ≠ 0 by rw [c1]; decide)]
    exact .inr ⟨c1, c2⟩
  have hr : goG M1.dir 98 (p 98) (M1.S.map (·.1)) (er A1) M1.S false = (er r.1, r.2) := Prod.ext c2.symm c3.symm
  rw [hr]
  rw [hr] at g2
  have hA2 : er r.1 = A2' := congrArg Prod.fst g2
  rw [← hA2] at u2
  rw [if_neg (show ¬ (r.2.2.2 ≠ 0) by rw [c1]; decide)]
  dsimp only
  rw [if_neg (show ¬ (r.2.2.2 ≠ 0) by rw [c1]; decide)]
  have nt2 : ∀ q ∈ T1.filter (fun q => !((M1.S.map (·.1)).any fun n => p 98 n && decide (q.1 = nmI 98 n))), isTmp q.1 = false := fun q hq => nt q (List.mem_filter.1 hq).1
  have hF2 : ∀ n ∈ M1.Fo.map (·.1), p 102 n = true → ∃ y, getN (T1.filter fun q => !((M1.S.map (·.1)).any fun n => p 98 n && decide (q.1 = nmI 98 n))) (nmI 102 n) = some y := fun n hn hp => by
    obtain ⟨y, hy⟩ := hF n hn hp
    refine ⟨y, mem_getN (has_up u2.live u2.here) (List.mem_filter.2 ⟨getN_mem hy, ?_⟩)⟩
    simp only [Bool.not_eq_true', List.any_eq_false, Bool.and_eq_true, decide_eq_true_eq]
    rintro m hm ⟨_, e⟩
    have := (nmI_inj (by decide) (by decide) (idF n hn) (idS m hm) e).1
    omega
  have G2 := goG_fz M1.dir (.inr rfl) (p 102) (M1.Fo.map (·.1)) r.1 M1.Fo r.2.2.1 _ u2.live u2.here nF idF hF2 nt2 c4 hPF
  obtain ⟨A3', g3, u3⟩ := goG_ok M1.dir (c := 102) (by decide) (p 102) (M1.Fo.map (·.1)) (er r.1) M1.Fo r.2.2.1 _ u2.live u2.here nF idF hF2
  have F2 := goG_flag M1.dir 102 (p 102) (M1.Fo.map (·.1)) r.1 M1.Fo r.2.2.1
  generalize goG M1.dir 102 (p 102) (M1.Fo.map (·.1)) r.1 M1.Fo r.2.2.1 = q at G2 F2 ⊢
  rcases G2 with ⟨d1, d2, d3, d4⟩ | ⟨d1, d2⟩
  rotate_left
  · rw [if_pos (show q.2.2.2 ≠ 0 by rw [d1]; decide)]
    exact .inr ⟨d1, d2⟩
  have hq : goG M1.dir 102 (p 102) (M1.Fo.map (·.1)) (er r.1) M1.Fo r.2.2.1 = (er q.1, q.2) := Prod.ext d2.symm d3.symm
  rw [hq]
  rw [hq] at g3
  have hA3 : er q.1 = A3' := congrArg Prod.fst g3
  rw [← hA3] at u3
  rw [if_neg (show ¬ (q.2.2.2 ≠ 0) by rw [d1]; decide)]
  dsimp only
  rw [if_neg (show ¬ (q.2.2.2 ≠ 0) by rw [d1]; decide)]
  cases hfl : q.2.2.1 with
  | false =>
    rw [if_neg (by decide), if_neg (by decide)]
    have e1 : q.1 = r.1 := F2.2 hfl d1
    have e2 : r.1 = A1 := F1.2 (F2.1 hfl) c1
    refine .inl ⟨rfl, rfl, T1, ?_, ?_⟩
    · show Has (er q.1) M1.dir T1
      rw [e1, e2]; exact H
    · show Dur q.1 M1.dir _
      rw [e1, e2]; exact D0
  | true =>
    rw [if_pos rfl, if_pos rfl]
    rcases syncDir_fz u3.live u3.here d4 with ⟨s1, s2, s3⟩ | ⟨s1, s2⟩
    · obtain ⟨s4, u4⟩ := syncDir_ok u3.live u3.here
      refine .inl ⟨s2, ?_, _, ?_, s3⟩
      · dsimp only
        rw [s1, s4]
      · show Has (er (q.1.syncDir M1.dir).1) M1.dir _
        rw [s2, unT_id fun x hx => nt2 x (List.mem_filter.1 hx).1]
        exact u4.here
    · exact .inr ⟨s1, s2⟩
theorem fold_fz (I : MInv (er A) M T) (D : Dur A M.dir (fun U => U = T)) (upto : Int) {w : Nat} (hw : wt M.entries ≤ w) (hw2 : w ≤ 10000000) (hu : A.used + (13 + w) ≤ A.room) (hf : M.S.length < 4000) :
    (∃ A' M' T' e, M.fold A upto = (A', M', e) ∧ (e = 0 ∨ e = 91) ∧ (e = 91 → ∀ p ∈ M.entries, ¬ p.1 ≤ upto) ∧ MInv (er A') M' T' ∧ M'.dir = M.dir ∧ M'.entries = M.entries ∧ M'.S.length ≤ M.S.length ∧ Upd 0 (13 + w) (M.S.length + 8) (er A) (er A') M.dir T' ∧ Dur A' M.dir (fun U => U = T')) ∨
    ((M.fold A upto).2.2 = 60 ∧ Dur (M.fold A upto).1 M.dir (fun U => ∃ M', MF M' U ∧ M'.dir = M.dir ∧ ∀ k, M'.get k = M.get k)) := by
  obtain ⟨B, M', T', e, he, he2, hne, I', hdir, hent, hSl, u⟩ := I.folds upto hw hw2 hu hf
  suffices key : (er (M.fold A upto).1 = B ∧ (M.fold A upto).2 = (M', e) ∧ ∃ T2, Has (er (M.fold A upto).1) M.dir T2 ∧ Dur (M.fold A upto).1 M.dir (fun U => U = T2)) ∨
      ((M.fold A upto).2.2 = 60 ∧ Dur (M.fold A upto).1 M.dir (fun U => ∃ M', MF M' U ∧ M'.dir = M.dir ∧ ∀ k, M'.get k = M.get k)) by
    rcases key with ⟨k1, k2, T2, k3, k4⟩ | k
    · refine .inl ⟨_, M', T', e, Prod.ext rfl k2, he2, hne, by rw [k1]; exact I', hdir, hent, hSl, by rw [k1]; exact u, ?_⟩
      have e3 : T2 = T' := Has.uniq I'.live.wf (by rw [← k1]; exact k3) (by rw [← hdir]; exact I'.has)
      rw [← e3]
      exact k4
    · exact .inr k
  have hfo : M.Fo.length ≤ 1 := by rcases I.fold with ⟨e, _⟩ | ⟨_, e⟩ <;> rw [e] <;> simp
  unfold Meta.fold at he ⊢
  dsimp only at he ⊢
  generalize hm : max upto (topT M.Fo) = m at he ⊢
  generalize hs : M.entries.filter (fun p => decide (p.1 ≤ m)) = sm at he ⊢
  by_cases hlast : topT sm < 0
  · rw [if_pos hlast] at he ⊢
    cases he
    exact .inl ⟨rfl, rfl, T, I.has, D⟩
  rw [if_neg hlast] at he ⊢
  by_cases hdone : topT M.Fo = topT sm ∧ M.Fo.length = 1 ∧ ∀ p ∈ M.S, topT sm < p.1
  · rw [if_pos hdone] at he ⊢
    cases he
    exact .inl ⟨rfl, rfl, T, I.has, D⟩
  rw [if_neg hdone] at he ⊢
  by_cases h42 : 16777216 < (pairsE sm).length
  · rw [if_pos h42] at he ⊢
    cases he
    exact .inl ⟨rfl, rfl, T, I.has, D⟩
  rw [if_neg h42] at he ⊢
  generalize hl : topT sm = last at he ⊢ hlast
  have hmem : ∀ p ∈ sm, p ∈ M.entries ∧ p.1 ≤ m := fun p hp => by rw [← hs] at hp; have := List.mem_filter.1 hp; exact ⟨this.1, by simpa using this.2⟩
  have hok : ∀ p ∈ sm, IdOk p.1 ∧ B8 p.2 ∧ p.2.length ≤ 5000 := fun p hp => I.okE p (hmem p hp).1
  have hwt : (pairsE sm).length ≤ 5 + w := by
    have h1 : wt sm ≤ w := by rw [← hs]; exact Nat.le_trans (wt_filter _ _) hw
    have h2 := len_wt sm
    have := pairsE_wt (E := sm) (fun p hp => (hok p hp).2.2) (by omega)
    omega
  obtain ⟨pl, hpl, epl⟩ := top_mem (T := sm) (by rw [hl]; omega)
  rw [hl] at epl
  have hid : IdOk last := by rw [← epl]; exact (hok pl hpl).1
  have hr : right (nmI 102 last) = true := Fnm.nm_right (by decide) (by decide) _
  have hz : (nmI 102 last).size ≤ 28 := by unfold nmI; rw [Fnm.nm_size]; decide
  have hlT : T.length < 4096 := by have := I.few; omega
  have h8 : B8 (pairsE sm) := pairsE_B8 fun p hp => (hok p hp).2.1
  obtain ⟨e1, u1⟩ := put_ok (name := nmI 102 last) (x := pairsE sm) I.live I.has hr hz (I.noTmp _) hlT h8 (by omega) (by show A.used + _ ≤ A.room; omega)
  have up0 := has_up I.live I.has
  have up1 := has_up u1.live u1.here
  have fin : ∀ U, U = T ∨ FP M T sm last U → ∃ M', MF M' U ∧ M'.dir = M.dir ∧ ∀ k, M'.get k = M.get k := by
    rintro U (rfl | h)
    · exact ⟨M, I.mf, rfl, fun _ => rfl⟩
    · exact fp_mf I (by omega) sm hs hl (by omega) (by omega) h
  have fp1 : FP M T sm last (setN (nmI 102 last) (packN (pairsE sm)) T) := by
    refine ⟨fun k x h => ?_, getN_mem (getN_set_self _ _ _), fun p hp hlp => ?_⟩
    · rcases mem_setN h with h | h
      · cases h; exact .inl ⟨rfl, rfl⟩
      · exact .inr h
    · refine getN_mem ?_
      rw [getN_set_ne _ (fun e => ?_)]
      · exact mem_getN up0 ((I.files _ _).2 (.inl ⟨p, hp, rfl, rfl⟩))
      · have := (nmI_inj (by decide) (by decide) hid (I.okS p hp).1 e).1
        omega
  rcases put_fz (P := fun U => U = T ∨ FP M T sm last U) I.live I.has I.plain hr hz (Fnm.nm_tmp (by decide) _) hlT h8 (by omega) (by omega) (D.mono fun _ h => .inl h) (.inr fp1) with ⟨h1, h2, h3⟩ | ⟨h1, h2⟩
  rotate_left
  · rw [if_pos (show (A.put M.dir (nmI 102 last) (pairsE sm)).2 ≠ 0 by rw [h1]; decide)]
    exact .inr ⟨h1, h2.mono fin⟩
  rw [if_neg (show ¬ ((A.put M.dir (nmI 102 last) (pairsE sm)).2 ≠ 0) by rw [h1]; decide)]
  rw [if_neg (show ¬ (((er A).put M.dir (nmI 102 last) (pairsE sm)).2 ≠ 0) by rw [e1]; decide), ← h2] at he
  rw [← h2] at u1
  generalize (A.put M.dir (nmI 102 last) (pairsE sm)).1 = A1 at he h3 u1 ⊢
  have nF : ((setT last () M.Fo).map (·.1)).Nodup := (setT_up I.foUp).nodup
  have idF : ∀ n ∈ (setT last () M.Fo).map (·.1), IdOk n := fun n hn => by
    obtain ⟨p, hp, rfl⟩ := List.mem_map.1 hn
    rcases (mem_setT I.foUp).1 hp with rfl | ⟨_, hp⟩
    · exact hid
    · exact I.foOk p hp
  have idS : ∀ n ∈ M.S.map (·.1), IdOk n := fun n hn => by obtain ⟨p, hp, rfl⟩ := List.mem_map.1 hn; exact (I.okS p hp).1
  have nt1 : ∀ q ∈ setN (nmI 102 last) (packN (pairsE sm)) T, isTmp q.1 = false := fun q hq => by
    rcases mem_setN hq with rfl | hq
    · exact Fnm.nm_tmp (by decide) _
    · exact I.plain q hq
  have del : ∀ V nm, (nm ≠ nmI 102 last) → (∀ p ∈ M.S, last < p.1 → nm ≠ nmI 98 p.1) → FP M T sm last V → FP M T sm last (delN nm V) := fun V nm a1 a2 hV => by
    refine ⟨fun k x h => hV.sub k x (List.mem_filter.1 h).1, List.mem_filter.2 ⟨hV.top, ?_⟩, fun p hp hlp => List.mem_filter.2 ⟨hV.keep p hp hlp, ?_⟩⟩
    · simp only [Bool.not_eq_true', decide_eq_false_iff_not]
      exact Ne.symm a1
    · simp only [Bool.not_eq_true', decide_eq_false_iff_not]
      exact Ne.symm (a2 p hp hlp)
  have a1 : ∀ n ∈ M.S.map (·.1), (if (98 : Nat) = 98 then decide (n ≤ last) else decide (n ≠ last)) = true → ∃ y, getN (setN (nmI 102 last) (packN (pairsE sm)) T) (nmI 98 n) = some y := fun n hn hp => by
    obtain ⟨p, hp2, rfl⟩ := List.mem_map.1 hn
    refine ⟨packN p.2, ?_⟩
    rw [getN_set_ne _ (fun e => ?_)]
    · exact mem_getN up0 ((I.files _ _).2 (.inl ⟨p, hp2, rfl, rfl⟩))
    · have := (nmI_inj (by decide) (by decide) hid (I.okS p hp2).1 e).1
      omega
  have a2 : ∀ n ∈ (setT last () M.Fo).map (·.1), (if (102 : Nat) = 98 then decide (n ≤ last) else decide (n ≠ last)) = true → ∃ y, getN (setN (nmI 102 last) (packN (pairsE sm)) T) (nmI 102 n) = some y := fun n hn hp => by
    obtain ⟨p, hp2, rfl⟩ := List.mem_map.1 hn
    rw [if_neg (by decide)] at hp
    simp only [decide_eq_true_eq] at hp
    rcases (mem_setT I.foUp).1 hp2 with rfl | ⟨_, hp3⟩
    · exact absurd rfl hp
    · refine ⟨packN (pairsE M.D), ?_⟩
      rw [getN_set_ne _ (fun e => hp (nmI_inj (by decide) (by decide) hid (I.foOk p hp3) e).2.symm)]
      exact mem_getN up0 ((I.files _ _).2 (.inr ⟨p, hp3, rfl, rfl⟩))
  have a3 : ∀ V n, n ∈ M.S.map (·.1) → (if (98 : Nat) = 98 then decide (n ≤ last) else decide (n ≠ last)) = true → FP M T sm last V → FP M T sm last (delN (nmI 98 n) V) := fun V n hn hp hV => by
    rw [if_pos rfl] at hp
    simp only [decide_eq_true_eq] at hp
    refine del V _ (fun e => ?_) (fun p hp2 hlp e => ?_) hV
    · have := (nmI_inj (by decide) (by decide) (idS n hn) hid e).1
      omega
    · have := (nmI_inj (by decide) (by decide) (idS n hn) (I.okS p hp2).1 e).2
      omega
  have a4 : ∀ V n, n ∈ (setT last () M.Fo).map (·.1) → (if (102 : Nat) = 98 then decide (n ≤ last) else decide (n ≠ last)) = true → FP M T sm last V → FP M T sm last (delN (nmI 102 n) V) := fun V n hn hp hV => by
    rw [if_neg (by decide)] at hp
    simp only [decide_eq_true_eq] at hp
    refine del V _ (fun e => hp (nmI_inj (by decide) (by decide) (idF n hn) hid e).2) (fun p hp2 hlp e => ?_) hV
    have := (nmI_inj (by decide) (by decide) (idF n hn) (I.okS p hp2).1 e).1
    omega
  have R := rem_fz (M1 := { M with Fo := setT last () M.Fo, D := M.entries.filter fun p => decide (p.1 ≤ last) }) (P := FP M T sm last) u1.live u1.here nt1 (fun c n => if c = 98 then decide (n ≤ last) else decide (n ≠ last)) I.upS.nodup idS a1 nF idF a2 (h3.mono fun U hU => by rw [hU]; exact fp1) h3 a3 a4
  rcases R with ⟨q1, q2, q3⟩ | ⟨q1, q2⟩
  · refine .inl ⟨?_, ?_, q3⟩
    · rw [q1, he]
    · rw [q2, he]
  · exact .inr ⟨q1, q2.mono fun U hU => fin U (.inr hU)⟩
end
end AF
end Go.Proofs.YticjjdhaikbdaaaGreat
