/- A log in a file system that is on and has no fuse: fold (plain). -/
import Derived.Test.YticjjdhaikbdaaaGreatMkMt4
namespace Go.Proofs.YticjjdhaikbdaaaGreat
open Go Go.RowKit
set_option linter.unusedVariables false
set_option linter.unusedSimpArgs false
namespace AF
open Frame (packN)
theorem Upd.refl {A : FS} {dir : ByteArray} {U : Dirc} (L : Live A) (H : Has A dir U) : Upd 0 0 0 A A dir U :=
  ⟨L, H, fun _ _ _ h => h, fun _ _ h => h, rfl, Nat.le_refl _, Nat.le_refl _, Nat.le_refl _⟩
theorem filter_id {β : Type} {l : List β} {p : β → Bool} (h : ∀ x ∈ l, p x = true) : l.filter p = l := List.filter_eq_self.2 h
theorem goG_ok {α : Type} (dir : ByteArray) {c : Nat} (hc : c < 256) (p : Int → Bool) : ∀ (l : List Int) (A : FS) (T : List (Int × α)) (s : Bool) (U : Dirc), Live A → Has A dir U → l.Nodup → (∀ n ∈ l, IdOk n) → (∀ n ∈ l, p n = true → ∃ x, getN U (nmI c n) = some x) →
    ∃ A', goG dir c p l A T s = (A', T.filter (fun q => !(decide (q.1 ∈ l) && p q.1)), s || l.any p, 0) ∧ Upd 0 0 l.length A A' dir (U.filter fun q => !(l.any fun n => p n && decide (q.1 = nmI c n)))
  | [], A, T, s, U, L, H, _, _, _ => by
    refine ⟨A, ?_, ?_⟩
    · simp only [goG, List.any_nil, Bool.or_false]
      rw [filter_id (by simp)]
    · rw [filter_id (by simp)]
      exact Upd.refl L H
  | n :: l, A, T, s, U, L, H, hn, hi, hg => by
    have hn2 := List.nodup_cons.1 hn
    unfold goG
    by_cases hp : p n = true
    · rw [if_pos hp]
      obtain ⟨x, hx⟩ := hg n (List.mem_cons_self ..) hp
      obtain ⟨e, u⟩ := remove_ok L H hx
      rw [if_pos e]
      obtain ⟨A', e2, u2⟩ := goG_ok dir hc p l (A.remove dir (nmI c n)).1 (delT n T) true (delN (nmI c n) U) u.live u.here hn2.2 (fun m hm => hi m (List.mem_cons_of_mem _ hm)) fun m hm hpm => by
        obtain ⟨y, hy⟩ := hg m (List.mem_cons_of_mem _ hm) hpm
        refine ⟨y, ?_⟩
        rw [getN_del_ne _ U]
        · exact hy
        · intro e3
          have := (nmI_inj hc hc (hi n (List.mem_cons_self ..)) (hi m (List.mem_cons_of_mem _ hm)) e3).2
          exact hn2.1 (by rw [this]; exact hm)
      refine ⟨A', ?_, ?_⟩
      · rw [e2]
        congr 1
        congr 1
        · unfold delT
          rw [List.filter_filter]
          apply List.filter_congr
          intro q _
          by_cases hq : q.1 = n
          · simp [hq, hp]
          · simp [hq]
        · congr 1
          simp [hp]
      · have := u.trans u2
        refine Upd.weak (n := 0 + 0) (k := 0 + 0) (s := 1 + l.length) ?_ (Nat.le_refl _) (Nat.le_refl _) (by simp; omega)
        have e4 : (delN (nmI c n) U).filter (fun q => !(l.any fun m => p m && decide (q.1 = nmI c m))) = U.filter fun q => !((n :: l).any fun m => p m && decide (q.1 = nmI c m)) := by
          unfold delN
          rw [List.filter_filter]
          apply List.filter_congr
          intro q _
          simp only [List.any_cons, hp, Bool.true_and, Bool.not_or]
          exact Bool.and_comm _ _
        rw [← e4]
        exact this
    · rw [if_neg hp]
      obtain ⟨A', e2, u2⟩ := goG_ok dir hc p l A T s U L H hn2.2 (fun m hm => hi m (List.mem_cons_of_mem _ hm)) fun m hm hpm => hg m (List.mem_cons_of_mem _ hm) hpm
      refine ⟨A', ?_, ?_⟩
      · rw [e2]
        congr 1
        congr 1
        · apply List.filter_congr
          intro q _
          by_cases hq : q.1 = n
          · simp [hq, hp]
          · simp [hq]
        · congr 1
          simp [hp]
      · have e4 : U.filter (fun q => !((n :: l).any fun m => p m && decide (q.1 = nmI c m))) = U.filter fun q => !(l.any fun m => p m && decide (q.1 = nmI c m)) := by
          apply List.filter_congr
          intro q _
          simp [hp]
        rw [e4]
        exact u2.weak (Nat.le_refl _) (Nat.le_refl _) (by simp)

/-! ### how long a fold is -/
def wt (E : Ent) : Nat := (E.map fun p => 30 + p.2.length).sum
theorem wt_filter (q : Int × List Nat → Bool) (E : Ent) : wt (E.filter q) ≤ wt E := sum_filter_le _ _ _
theorem hexN_length (n : Int) : (sb (hexN n)).length = 16 := by
  unfold hexN
  rw [sb_ofN (Hex.digs_B8 _ _), Hex.digs_length]
theorem pairsE_wt {E : Ent} (h : ∀ p ∈ E, p.2.length ≤ 5000) (hl : E.length < 34359738368) : (pairsE E).length ≤ 5 + wt E := by
  unfold pairsE pairsB
  rw [List.length_append, List.length_map]
  have h1 := numB_length 4 E.length (by omega)
  have h2 : ∀ E : Ent, (∀ p ∈ E, p.2.length ≤ 5000) → (((E.map fun p => (sb (hexN p.1), p.2)).flatMap pairB)).length ≤ wt E := by
    intro E h
    induction E with
    | nil => exact Nat.le_refl _
    | cons p E ih =>
      have := ih fun q hq => h q (List.mem_cons_of_mem _ hq)
      have h3 := h p (List.mem_cons_self ..)
      have h4 := numB_length 4 p.2.length (by omega)
      have h5 : (numB 16).length = 1 := by rw [numB_small (by decide)]; rfl
      have h6 : (pairB (sb (hexN p.1), p.2)).length ≤ 30 + p.2.length := by
        unfold pairB wordB
        simp only [List.length_append, hexN_length, h5]
        omega
      unfold wt at this ⊢
      rw [List.map_cons, List.flatMap_cons, List.length_append, List.map_cons, List.sum_cons]
      omega
  have := h2 E h
  omega
theorem hexN_B8 (n : Int) : B8 (sb (hexN n)) := sb_B8 _
theorem pairsE_B8 {E : Ent} (h : ∀ p ∈ E, B8 p.2) : B8 (pairsE E) := pairsB_B8 fun p hp => by
  obtain ⟨q, hq, rfl⟩ := List.mem_map.1 hp
  exact ⟨hexN_B8 _, h q hq⟩

section
variable {A : FS} {M : Meta} {T : Dirc}
theorem MInv.foOk (I : MInv A M T) : ∀ p ∈ M.Fo, IdOk p.1 := by
  intro p hp
  rcases I.fold with ⟨e, _⟩ | ⟨ht, e⟩
  · rw [e] at hp; cases hp
  · rw [e, List.mem_singleton] at hp
    subst hp
    obtain ⟨q, hq, e5⟩ := top_mem ht
    simp only [← e5]
    exact (I.okD q hq).1
theorem MInv.foUp (I : MInv A M T) : UpT M.Fo := by
  rcases I.fold with ⟨e, _⟩ | ⟨ht, e⟩
  · rw [e]; exact List.Pairwise.nil
  · rw [e]; exact List.pairwise_singleton ..
theorem MInv.topFo (I : MInv A M T) : topT M.Fo = topT M.D := by
  rcases I.fold with ⟨e, e2⟩ | ⟨ht, e⟩
  · rw [e, e2]; rfl
  · rw [e]
    show max (-1) (topT M.D) = _
    omega
theorem len_wt (E : Ent) : E.length ≤ wt E := by
  unfold wt
  induction E with
  | nil => exact Nat.le_refl _
  | cons p E ih => rw [List.length_cons, List.map_cons, List.sum_cons]; omega
set_option maxHeartbeats 1000000 in
theorem MInv.folds (I : MInv A M T) (upto : Int) {w : Nat} (hw : wt M.entries ≤ w) (hw2 : w ≤ 10000000) (hu : A.used + (13 + w) ≤ A.room) (hf : M.S.length < 4000) :
    ∃ A' M' T' e, M.fold A upto = (A', M', e) ∧ (e = 0 ∨ e = 91) ∧ (e = 91 → ∀ p ∈ M.entries, ¬ p.1 ≤ upto) ∧ MInv A' M' T' ∧ M'.dir = M.dir ∧ M'.entries = M.entries ∧ M'.S.length ≤ M.S.length ∧ Upd 0 (13 + w) (M.S.length + 8) A A' M.dir T' := by
  have hfo : M.Fo.length ≤ 1 := by rcases I.fold with ⟨e, _⟩ | ⟨_, e⟩ <;> rw [e] <;> simp
  have hE := I.upE
  generalize hm : max upto (topT M.Fo) = m
  generalize hs : M.entries.filter (fun p => decide (p.1 ≤ m)) = some
  have hsm : ∀ p ∈ some, p ∈ M.entries ∧ p.1 ≤ m := fun p hp => by rw [← hs] at hp; have := List.mem_filter.1 hp; exact ⟨this.1, by simpa using this.2⟩
  have hms : ∀ p ∈ M.entries, p.1 ≤ m → p ∈ some := fun p hp hl => by rw [← hs]; exact List.mem_filter.2 ⟨hp, by simpa using hl⟩
  unfold Meta.fold
  simp only [hm, hs]
  by_cases hlast : topT some < 0
  · rw [if_pos hlast]
    refine ⟨A, M, T, 91, rfl, .inr rfl, fun _ p hp hle => ?_, I, rfl, rfl, Nat.le_refl _, (Upd.refl I.live I.has).weak (Nat.le_refl _) (by omega) (by omega)⟩
    have := le_top (hms p hp (by omega))
    have := (I.okE p hp).1.1
    omega
  rw [if_neg hlast]
  by_cases hdone : topT M.Fo = topT some ∧ M.Fo.length = 1 ∧ ∀ p ∈ M.S, topT some < p.1
  · rw [if_pos hdone]
    exact ⟨A, M, T, 0, rfl, .inl rfl, (fun e => by cases e), I, rfl, rfl, Nat.le_refl _, (Upd.refl I.live I.has).weak (Nat.le_refl _) (by omega) (by omega)⟩
  rw [if_neg hdone]
  have hok : ∀ p ∈ some, IdOk p.1 ∧ B8 p.2 ∧ p.2.length ≤ 5000 := fun p hp => I.okE p (hsm p hp).1
  have hwt : (pairsE some).length ≤ 5 + w := by
    have h1 : wt some ≤ w := by rw [← hs]; exact Nat.le_trans (wt_filter _ _) hw
    have h2 := len_wt some
    have := pairsE_wt (E := some) (fun p hp => (hok p hp).2.2) (by omega)
    omega
  rw [if_neg (by omega)]
  generalize hl : topT some = last at *
  obtain ⟨pl, hpl, epl⟩ := top_mem (T := some) (by rw [hl]; omega)
  rw [hl] at epl
  have hid : IdOk last := by rw [← epl]; exact (hok pl hpl).1
  obtain ⟨e1, u1⟩ := put_ok (name := nmI 102 last) (x := pairsE some) I.live I.has (Fnm.nm_right (by decide) (by decide) _) (by unfold nmI; rw [Fnm.nm_size]; decide) (I.noTmp _) (by have := I.few; omega)
    (pairsE_B8 fun p hp => (hok p hp).2.1) (by omega) (by omega)
  rw [e1]
  simp only [ne_eq, not_true, if_false]
  have hfil : M.entries.filter (fun p => decide (p.1 ≤ last)) = some := by
    rw [← hs]
    apply List.filter_congr
    intro p hp
    have h1 : last ≤ m := by rw [← epl]; exact (hsm pl hpl).2
    by_cases h : p.1 ≤ m
    · have := le_top (hms p hp h)
      rw [hl] at this
      simp [h, this]
    · have : ¬ p.1 ≤ last := by omega
      simp [h, this]
  rw [hfil]
  generalize hA1 : (A.put M.dir (nmI 102 last) (pairsE some)).1 = A1 at *
  have up0 := has_up I.live I.has
  have up1 := has_up u1.live u1.here
  have inT1 : ∀ k x, (k, x) ∈ setN (nmI 102 last) (packN (pairsE some)) T ↔ (k = nmI 102 last ∧ x = packN (pairsE some)) ∨ (k ≠ nmI 102 last ∧ (k, x) ∈ T) := fun k x => by
    rw [mem_setN_iff up0 up1, Prod.mk.injEq]
  have nS : (M.S.map (·.1)).Nodup := I.upS.nodup
  have hFo2 : UpT (setT last () M.Fo) := setT_up I.foUp
  have nF : ((setT last () M.Fo).map (·.1)).Nodup := hFo2.nodup
  unfold Meta.remove
  simp only [if_true]
  obtain ⟨A2, e2, u2⟩ := goG_ok M.dir (c := 98) (by decide) (fun n => decide (n ≤ last)) (M.S.map (·.1)) A1 M.S false _ u1.live u1.here nS (fun n hn => by obtain ⟨p, hp, rfl⟩ := List.mem_map.1 hn; exact (I.okS p hp).1) fun n hn _ => by
    obtain ⟨p, hp, rfl⟩ := List.mem_map.1 hn
    refine ⟨packN p.2, mem_getN up1 ((inT1 _ _).2 (.inr ⟨fun e => ?_, (I.files _ _).2 (.inl ⟨p, hp, rfl, rfl⟩)⟩))⟩
    have := (nmI_inj (by decide) (by decide) (I.okS p hp).1 hid e).1
    omega
  rw [e2]
  simp only [ne_eq, not_true, if_false]
  have up2 := has_up u2.live u2.here
  have idF : ∀ n ∈ (setT last () M.Fo).map (·.1), IdOk n := fun n hn => by
    obtain ⟨p, hp, rfl⟩ := List.mem_map.1 hn
    rcases (mem_setT I.foUp).1 hp with rfl | ⟨_, hp⟩
    · exact hid
    · exact I.foOk p hp
  obtain ⟨A3, e3, u3⟩ := goG_ok M.dir (c := 102) (by decide) (fun n => decide (n ≠ last)) ((setT last () M.Fo).map (·.1)) A2 (setT last () M.Fo) (false || (M.S.map (·.1)).any fun n => decide (n ≤ last)) _ u2.live u2.here nF idF fun n hn hne => by
    obtain ⟨p, hp, rfl⟩ := List.mem_map.1 hn
    simp only [decide_eq_true_eq] at hne
    rcases (mem_setT I.foUp).1 hp with rfl | ⟨_, hp⟩
    · exact absurd rfl hne
    · refine ⟨packN (pairsE M.D), mem_getN up2 (List.mem_filter.2 ⟨(inT1 _ _).2 (.inr ⟨fun e => hne (nmI_inj (by decide) (by decide) (I.foOk p hp) hid e).2, (I.files _ _).2 (.inr ⟨p, hp, rfl, rfl⟩)⟩), ?_⟩)⟩
      simp only [Bool.not_eq_true', List.any_eq_false, Bool.and_eq_true, decide_eq_true_eq]
      rintro n hn2 ⟨_, e⟩
      obtain ⟨q, hq, rfl⟩ := List.mem_map.1 hn2
      have := (nmI_inj (by decide) (by decide) (I.foOk p hp) (I.okS q hq).1 e).1
      omega
  rw [show (fun n => if (102 : Nat) = 98 then decide (n ≤ last) else decide (n ≠ last)) = fun n : Int => decide (n ≠ last) from by funext n; rw [if_neg (by decide)]]
  rw [e3]
  simp only [ne_eq, not_true, if_false]
  -- what is left
  have eS : M.S.filter (fun q => !(decide (q.1 ∈ M.S.map (·.1)) && decide (q.1 ≤ last))) = M.S.filter fun q => decide (last < q.1) := by
    apply List.filter_congr
    intro q hq
    have : q.1 ∈ M.S.map (·.1) := List.mem_map.2 ⟨q, hq, rfl⟩
    by_cases h : q.1 ≤ last
    · have h2 : ¬ last < q.1 := by omega
      simp [this, h, h2]
    · have h2 : last < q.1 := by omega
      simp [this, h, h2]
  have eF : (setT last () M.Fo).filter (fun q => !(decide (q.1 ∈ (setT last () M.Fo).map (·.1)) && decide (q.1 ≠ last))) = [(last, ())] := by
    refine tab_ext (filter_up hFo2) (List.pairwise_singleton ..) fun p => ?_
    rw [List.mem_filter, List.mem_singleton, mem_setT I.foUp]
    constructor
    · rintro ⟨h1, h2⟩
      rcases h1 with h1 | ⟨h1, h3⟩
      · exact h1
      · have : p.1 ∈ (setT last () M.Fo).map (·.1) := List.mem_map.2 ⟨p, (mem_setT I.foUp).2 (.inr ⟨h1, h3⟩), rfl⟩
        simp [h1, this] at h2
    · rintro rfl
      exact ⟨.inl rfl, by simp⟩
  simp only [ne_eq] at eF
  rw [eS, eF]
  generalize hT3 : (List.filter (fun q : ByteArray × List Nat => !((setT last () M.Fo).map (·.1)).any fun n => decide (n ≠ last) && decide (q.1 = nmI 102 n)) (List.filter (fun q : ByteArray × List Nat => !(M.S.map (·.1)).any fun n => decide (n ≤ last) && decide (q.1 = nmI 98 n)) (setN (nmI 102 last) (packN (pairsE some)) T))) = T3 at u3
  generalize hM : ({ dir := M.dir, S := M.S.filter fun q => decide (last < q.1), Fo := [(last, ())], D := some } : Meta) = M'
  have hMd : M'.dir = M.dir := by rw [← hM]
  have hMS : M'.S = M.S.filter fun q => decide (last < q.1) := by rw [← hM]
  have hMF : M'.Fo = [(last, ())] := by rw [← hM]
  have hMD : M'.D = some := by rw [← hM]
  have hupsome : UpT some := by rw [← hs]; exact filter_up hE
  have hfiles : ∀ k x, (k, x) ∈ T3 ↔ (∃ p ∈ M'.S, k = nmI 98 p.1 ∧ x = packN p.2) ∨ (∃ p ∈ M'.Fo, k = nmI 102 p.1 ∧ x = packN (pairsE M'.D)) := by
    intro k x
    rw [← hT3, List.mem_filter, List.mem_filter, inT1, hMS, hMF, hMD]
    simp only [Bool.not_eq_true', List.any_eq_false, Bool.and_eq_true, decide_eq_true_eq, not_and]
    constructor
    · rintro ⟨⟨h1, h2⟩, h3⟩
      rcases h1 with ⟨rfl, rfl⟩ | ⟨hne, hm2⟩
      · exact .inr ⟨_, List.mem_singleton.2 rfl, rfl, rfl⟩
      · rcases (I.files k x).1 hm2 with ⟨p, hp, rfl, rfl⟩ | ⟨p, hp, rfl, rfl⟩
        · refine .inl ⟨p, List.mem_filter.2 ⟨hp, ?_⟩, rfl, rfl⟩
          have : ¬ p.1 ≤ last := fun h => h2 p.1 (List.mem_map.2 ⟨p, hp, rfl⟩) h rfl
          simp only [decide_eq_true_eq]
          omega
        · have hpn : p.1 ≠ last := fun h => hne (by rw [h])
          exact absurd rfl (h3 p.1 (List.mem_map.2 ⟨p, (mem_setT I.foUp).2 (.inr ⟨hpn, hp⟩), rfl⟩) hpn)
    · rintro (⟨p, hp, rfl, rfl⟩ | ⟨p, hp, rfl, rfl⟩)
      · have hp2 := List.mem_filter.1 hp
        simp only [decide_eq_true_eq] at hp2
        refine ⟨⟨.inr ⟨fun e => ?_, (I.files _ _).2 (.inl ⟨p, hp2.1, rfl, rfl⟩)⟩, fun n hn hle e => ?_⟩, fun n hn hne e => ?_⟩
        · have := (nmI_inj (by decide) (by decide) (I.okS p hp2.1).1 hid e).1
          omega
        · obtain ⟨q, hq, rfl⟩ := List.mem_map.1 hn
          have := (nmI_inj (by decide) (by decide) (I.okS p hp2.1).1 (I.okS q hq).1 e).2
          omega
        · have := (nmI_inj (by decide) (by decide) (I.okS p hp2.1).1 (idF n hn) e).1
          omega
      · rw [List.mem_singleton] at hp
        subst hp
        refine ⟨⟨.inl ⟨rfl, rfl⟩, fun n hn hle e => ?_⟩, fun n hn hne e => ?_⟩
        · obtain ⟨q, hq, rfl⟩ := List.mem_map.1 hn
          have := (nmI_inj (by decide) (by decide) hid (I.okS q hq).1 e).1
          omega
        · exact hne (nmI_inj (by decide) (by decide) hid (idF n hn) e).2.symm
  have inv : ∀ A4, Upd 0 0 1 A3 A4 M.dir T3 → MInv A4 M' T3 := fun A4 u4 => by
    refine ⟨u4.live, by rw [hMd]; exact u4.here, by rw [hMS]; exact filter_up I.upS, by rw [hMD]; exact hupsome, ?_, by rw [hMD]; exact hok, by rw [hMD]; omega, ?_, hfiles⟩
    · intro p hp
      rw [hMS] at hp
      exact I.okS p (List.mem_filter.1 hp).1
    · refine .inr ?_
      rw [hMD, hMF, hl]
      exact ⟨by omega, rfl⟩
  have hent : M'.entries = M.entries := by
    have upE' : UpT M'.entries := copyT_up (by rw [hMS]; exact filter_up I.upS)
    refine tab_ext2 upE' hE fun k => ?_
    show getT (copyT M'.S M'.D) k = _
    rw [getT_copy (by rw [hMD]; exact hupsome), hMS, hMD]
    have h1 : getT some k = if decide (k ≤ last) = true then getT M.entries k else none := by
      rw [← hfil]
      exact getT_filter (fun n => decide (n ≤ last)) _ _
    have h2 : getT (M.S.filter fun q => decide (last < q.1)) k = if decide (last < k) = true then getT M.S k else none := getT_filter (fun n => decide (last < n)) _ _
    rw [h1, h2]
    by_cases hk : k ≤ last
    · have hk2 : ¬ last < k := by omega
      simp only [hk, hk2, decide_true, decide_false, if_true, Bool.false_eq_true, if_false]
      cases getT M.entries k <;> rfl
    · have hk2 : last < k := by omega
      simp only [hk, hk2, decide_true, decide_false, if_true, Bool.false_eq_true, if_false]
      rw [I.getE]
      unfold Meta.get
      have : getT M.D k = none := by
        rw [getT_none]
        intro p hp e
        have hpE : p ∈ M.entries := by
          refine getT_mem (k := p.1) (x := p.2) ?_
          rw [I.getE]
          unfold Meta.get
          rw [mem_getT I.upD (show (p.1, p.2) ∈ M.D from hp)]
        have h3 : p.1 ≤ m := by
          have := le_top hp
          rw [← I.topFo] at this
          omega
        have := le_top (hms p hpE h3)
        rw [hl] at this
        omega
      rw [this]
  have hSl : M'.S.length ≤ M.S.length := by rw [hMS]; exact List.length_filter_le _ _
  have hFl : ((setT last () M.Fo).map (·.1)).length ≤ 2 := by
    rw [List.length_map]
    have := (setT_length last () M.Fo).1
    omega
  have ut := (u1.trans u2).trans u3
  rw [List.length_map] at ut
  obtain ⟨e4, u4⟩ := syncDir_ok u3.live u3.here
  split
  · refine ⟨_, M', T3, _, rfl, .inl e4, (fun e => by rw [e4] at e; cases e), inv _ u4, hMd, hent, hSl, ?_⟩
    exact (ut.trans u4).weak (Nat.le_refl _) (by omega) (by omega)
  · refine ⟨_, M', T3, _, rfl, .inl rfl, (fun e => by cases e), inv _ ((Upd.refl u3.live u3.here).weak (Nat.le_refl _) (Nat.le_refl _) (by omega)), hMd, hent, hSl, ?_⟩
    exact ut.weak (Nat.le_refl _) (by omega) (by omega)
end
end AF

end Go.Proofs.YticjjdhaikbdaaaGreat
