/- A log in a file system that is on and has no fuse: put, fold and opening anew (plain). -/
import Derived.Test.YticjjdhaikbdaaaGreatMkMt0
namespace Go.Proofs.YticjjdhaikbdaaaGreat
open Go Go.RowKit
set_option linter.unusedVariables false
set_option linter.unusedSimpArgs false

section
variable {α : Type}
theorem getT_filter (p : Int → Bool) : ∀ (T : List (Int × α)) (k : Int), getT (T.filter fun q => p q.1) k = if p k = true then getT T k else none
  | [], k => by simp [getT]
  | q :: T, k => by
    have ih := getT_filter p T k
    rw [List.filter_cons, getT_cons]
    by_cases h : p q.1 = true
    · rw [if_pos h, getT_cons, ih]
      by_cases e : q.1 = k
      · rw [if_pos e, if_pos (by rw [← e]; exact h), if_pos e]
      · rw [if_neg e, if_neg e]
    · rw [if_neg h, ih]
      by_cases e : q.1 = k
      · rw [if_neg (by rw [← e]; exact h), if_neg (by rw [← e]; exact h)]
      · rw [if_neg e]
theorem tab_ext2 {T U : List (Int × α)} (hT : UpT T) (hU : UpT U) (h : ∀ k, getT T k = getT U k) : T = U :=
  tab_ext hT hU fun p => ⟨fun hp => getT_mem (by rw [← h]; exact mem_getT hT hp), fun hp => getT_mem (by rw [h]; exact mem_getT hU hp)⟩
theorem filter_up {p : Int × α → Bool} {T : List (Int × α)} (h : UpT T) : UpT (T.filter p) := List.Pairwise.filter _ h
end
namespace AF
section
variable {α : Type}
theorem copyT_up {T D : List (Int × α)} (h : UpT T) : UpT (copyT T D) := by
  unfold copyT
  induction D generalizing T with
  | nil => exact h
  | cons p D ih => exact ih (setT_up h)
theorem getT_copy {D : List (Int × α)} (hD : UpT D) : ∀ (T : List (Int × α)) (k : Int), getT (copyT T D) k = match getT D k with
    | some x => some x
    | none => getT T k := by
  induction D with
  | nil => intro T k; rfl
  | cons p D ih =>
    intro T k
    have h2 := List.pairwise_cons.1 hD
    show getT (copyT (setT p.1 p.2 T) D) k = _
    rw [ih h2.2, getT_cons]
    by_cases e : p.1 = k
    · rw [if_pos e]
      have : getT D k = none := getT_none.2 fun q hq e2 => by have := h2.1 q hq; omega
      rw [this]
      simp only []
      rw [← e, getT_set_self]
    · rw [if_neg e]
      cases getT D k with
      | some x => rfl
      | none => exact getT_set_ne _ e T
theorem foldl_max (l : List Int) : ∀ a : Int, a ≤ l.foldl max a ∧ (∀ x ∈ l, x ≤ l.foldl max a) ∧ (l.foldl max a = a ∨ l.foldl max a ∈ l) := by
  induction l with
  | nil => intro a; simp
  | cons y l ih =>
    intro a
    obtain ⟨h1, h2, h3⟩ := ih (max a y)
    rw [List.foldl_cons]
    refine ⟨by omega, fun x hx => ?_, ?_⟩
    · rcases List.mem_cons.1 hx with rfl | hx
      · omega
      · exact h2 x hx
    · rcases h3 with h3 | h3
      · rw [h3]
        by_cases h : a ≤ y
        · right; rw [show max a y = y by omega]; exact List.mem_cons_self ..
        · left; omega
      · exact .inr (List.mem_cons_of_mem _ h3)
theorem le_top {T : List (Int × α)} {p : Int × α} (h : p ∈ T) : p.1 ≤ topT T := (foldl_max _ _).2.1 _ (List.mem_map.2 ⟨p, h, rfl⟩)
theorem top_mem {T : List (Int × α)} (h : -1 < topT T) : ∃ p ∈ T, p.1 = topT T := by
  rcases (foldl_max (T.map (·.1)) (-1)).2.2 with h2 | h2
  · exact absurd (show topT T = -1 from h2) (by omega)
  · obtain ⟨p, hp, e⟩ := List.mem_map.1 h2
    exact ⟨p, hp, e⟩
end
theorem mem_setN_iff {k : ByteArray} {x : List Nat} {T : Dirc} (hu : UpN T) {p : ByteArray × List Nat} (hu2 : UpN (setN k x T)) : p ∈ setN k x T ↔ p = (k, x) ∨ (p.1 ≠ k ∧ p ∈ T) := by
  obtain ⟨j, y⟩ := p
  by_cases h : j = k
  · subst h
    constructor
    · intro hm
      have h1 := mem_getN hu2 hm
      rw [getN_set_self] at h1
      cases h1
      exact .inl rfl
    · rintro (h | ⟨h, _⟩)
      · rw [h]; exact getN_mem (getN_set_self _ _ _)
      · exact absurd rfl h
  · constructor
    · intro hm
      have h1 := mem_getN hu2 hm
      rw [getN_set_ne _ (Ne.symm h)] at h1
      exact .inr ⟨h, getN_mem h1⟩
    · rintro (h1 | ⟨_, h1⟩)
      · cases h1; exact absurd rfl h
      · refine getN_mem ?_
        rw [getN_set_ne _ (Ne.symm h)]
        exact mem_getN hu h1
theorem natOf_id {n : Int} (h0 : 0 ≤ n) (h : n ≤ 1099511627776) : natOf n = n.toNat := by
  have : n = (n.toNat : Int) := by omega
  rw [this, natOf_nat (by omega)]
  omega
def IdOk (n : Int) : Prop := 0 ≤ n ∧ n ≤ 1099511627776
theorem nmI_inj {c d : Nat} {m n : Int} (hc : c < 256) (hd : d < 256) (hm : IdOk m) (hn : IdOk n) (h : nmI c m = nmI d n) : c = d ∧ m = n := by
  unfold nmI at h
  rw [natOf_id hm.1 hm.2, natOf_id hn.1 hn.2] at h
  have := Fnm.nm_inj hc hd (by have := hm.2; omega) (by have := hn.2; omega) h
  have h1 := hm.1; have h2 := hn.1
  exact ⟨this.1, by omega⟩
open Frame (packN)
open Fnm (nm)
structure MInv (A : FS) (M : Meta) (T : Dirc) : Prop where
  live : Live A
  has : Has A M.dir T
  upS : UpT M.S
  upD : UpT M.D
  okS : ∀ p ∈ M.S, IdOk p.1 ∧ B8 p.2 ∧ p.2.length ≤ 5000
  okD : ∀ p ∈ M.D, IdOk p.1 ∧ B8 p.2 ∧ p.2.length ≤ 5000
  lenD : (pairsE M.D).length ≤ 16777208
  fold : (M.Fo = [] ∧ M.D = []) ∨ (-1 < topT M.D ∧ M.Fo = [(topT M.D, ())])
  files : ∀ k x, (k, x) ∈ T ↔ (∃ p ∈ M.S, k = nmI 98 p.1 ∧ x = packN p.2) ∨ (∃ p ∈ M.Fo, k = nmI 102 p.1 ∧ x = packN (pairsE M.D))
section
variable {A : FS} {M : Meta} {T : Dirc}
theorem MInv.names (I : MInv A M T) {p : ByteArray × List Nat} (hp : p ∈ T) : ∃ c n, p.1 = nm c n ∧ c < 256 := by
  rcases (I.files p.1 p.2).1 hp with ⟨q, _, e, _⟩ | ⟨q, _, e, _⟩
  · exact ⟨98, _, e, by decide⟩
  · exact ⟨102, _, e, by decide⟩
theorem nodup_len {β : Type} [DecidableEq β] : ∀ {l m : List β}, l.Nodup → (∀ x ∈ l, x ∈ m) → l.length ≤ m.length
  | [], _, _, _ => Nat.zero_le _
  | a :: l, m, hn, hs => by
    have hn2 := List.nodup_cons.1 hn
    have ha := hs a (List.mem_cons_self ..)
    have := nodup_len (l := l) (m := m.erase a) hn2.2 fun x hx => (List.mem_erase_of_ne fun e => hn2.1 (by rw [← e]; exact hx)).2 (hs x (List.mem_cons_of_mem _ hx))
    rw [List.length_erase_of_mem ha] at this
    have : 0 < m.length := List.length_pos_of_mem ha
    rw [List.length_cons]
    omega
theorem UpN.nodup {T : Dirc} (h : UpN T) : (T.map (·.1)).Nodup := by
  rw [List.Nodup, List.pairwise_map]
  refine List.Pairwise.imp ?_ h
  intro a b hab e
  rw [← e] at hab
  exact strLt_irrefl a.1 hab
theorem MInv.few (I : MInv A M T) : T.length ≤ M.S.length + M.Fo.length := by
  have h := nodup_len (has_up I.live I.has).nodup (m := M.S.map (fun p => nmI 98 p.1) ++ M.Fo.map fun p => nmI 102 p.1) fun k hk => by
    obtain ⟨p, hp, rfl⟩ := List.mem_map.1 hk
    rcases (I.files p.1 p.2).1 hp with ⟨q, hq, e, _⟩ | ⟨q, hq, e, _⟩
    · exact List.mem_append.2 (.inl (List.mem_map.2 ⟨q, hq, e.symm⟩))
    · exact List.mem_append.2 (.inr (List.mem_map.2 ⟨q, hq, e.symm⟩))
  simpa using h
theorem MInv.noTmp (I : MInv A M T) (name : ByteArray) : getN T (tmpN ++ name) = none := by
  rw [getN_none]
  intro p hp e
  obtain ⟨c, n, e2, hc⟩ := I.names hp
  exact Fnm.nm_tmpne c n name hc (by rw [← e, e2])
theorem MInv.upE (I : MInv A M T) : UpT M.entries := copyT_up I.upS
theorem MInv.getE (I : MInv A M T) (k : Int) : getT M.entries k = M.get k := by
  unfold Meta.entries Meta.get
  rw [getT_copy I.upD]
  cases getT M.D k <;> rfl
theorem MInv.okE (I : MInv A M T) : ∀ p ∈ M.entries, IdOk p.1 ∧ B8 p.2 ∧ p.2.length ≤ 5000 := by
  rintro ⟨k, x⟩ hp
  have h := mem_getT I.upE hp
  rw [I.getE] at h
  unfold Meta.get at h
  cases hd : getT M.D k with
  | some b => rw [hd] at h; cases h; exact I.okD _ (getT_mem hd)
  | none => rw [hd] at h; exact I.okS _ (getT_mem h)
theorem setT_length {α : Type} (k : Int) (x : α) : ∀ T : List (Int × α), (setT k x T).length ≤ T.length + 1 ∧ T.length ≤ (setT k x T).length
  | [] => by simp [setT]
  | p :: l => by
    have := setT_length k x l
    unfold setT
    split
    · simp
    · split
      · simp
      · simp; omega
theorem MInv.put (I : MInv A M T) {id : Int} {b : List Nat} (hid : IdOk id) (hg : M.get id = none) (h8 : B8 b) (hb : b.length ≤ 5000) (hu : A.used + (8 + b.length) ≤ A.room) (hf : M.S.length < 4000) :
    ∃ A' T', M.put A id b = (A', { M with S := setT id b M.S }, 0) ∧ MInv A' { M with S := setT id b M.S } T' ∧ Upd 0 (8 + b.length) 5 A A' M.dir T' := by
  have hfo : M.Fo.length ≤ 1 := by rcases I.fold with ⟨e, _⟩ | ⟨_, e⟩ <;> rw [e] <;> simp
  obtain ⟨e, u⟩ := put_ok (name := nmI 98 id) (x := b) I.live I.has (Fnm.nm_right (by decide) (by decide) _) (by unfold nmI; rw [Fnm.nm_size]; decide) (I.noTmp _) (by have := I.few; omega) h8 (by omega) hu
  have hgS : getT M.S id = none := by
    unfold Meta.get at hg
    cases hd : getT M.D id with
    | some b => rw [hd] at hg; cases hg
    | none => rw [hd] at hg; exact hg
  refine ⟨_, _, ?_, ?_, u⟩
  · unfold Meta.put
    rw [if_neg (by have := hid.1; have := hid.2; omega), hg]
    simp only []
    rw [if_pos e]
  · have hup := has_up I.live I.has
    have hup2 := has_up u.live u.here
    refine ⟨u.live, u.here, setT_up I.upS, I.upD, ?_, I.okD, I.lenD, I.fold, ?_⟩
    · intro p hp
      rcases (mem_setT I.upS).1 hp with rfl | ⟨_, hp⟩
      · exact ⟨hid, h8, hb⟩
      · exact I.okS p hp
    · intro k x
      show _ ↔ _
      rw [mem_setN_iff hup hup2]
      constructor
      · rintro (h | ⟨hne, hm⟩)
        · cases h
          exact .inl ⟨(id, b), (mem_setT I.upS).2 (.inl rfl), rfl, rfl⟩
        · rcases (I.files k x).1 hm with ⟨p, hp, e1, e2⟩ | h
          · refine .inl ⟨p, (mem_setT I.upS).2 (.inr ⟨fun e3 => hne ?_, hp⟩), e1, e2⟩
            simp only [e1, e3]
          · exact .inr h
      · rintro (⟨p, hp, e1, e2⟩ | ⟨p, hp, e1, e2⟩)
        · rcases (mem_setT I.upS).1 hp with rfl | ⟨hne, hp⟩
          · exact .inl (by rw [e1, e2])
          · refine .inr ⟨fun e3 => hne ?_, (I.files k x).2 (.inl ⟨p, hp, e1, e2⟩)⟩
            simp only [e1] at e3
            exact (nmI_inj (by decide) (by decide) (I.okS p hp).1 hid e3).2
        · refine .inr ⟨fun e3 => ?_, (I.files k x).2 (.inr ⟨p, hp, e1, e2⟩)⟩
          simp only [e1] at e3
          have hid2 : IdOk p.1 := by
            rcases I.fold with ⟨e4, _⟩ | ⟨ht, e4⟩
            · rw [e4] at hp; cases hp
            · rw [e4, List.mem_singleton] at hp
              subst hp
              obtain ⟨q, hq, e5⟩ := top_mem ht
              simp only [← e5]
              exact (I.okD q hq).1
          have := (nmI_inj (by decide) (by decide) hid2 hid e3).1
          omega
end
end AF

end Go.Proofs.YticjjdhaikbdaaaGreat
