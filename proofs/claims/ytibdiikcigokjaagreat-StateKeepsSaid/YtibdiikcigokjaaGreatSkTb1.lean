/- Tables as plain data: pairs that rise by their keys; and what a map in whatever order has of them. -/
import Derived.Test.YtibdiikcigokjaaGreatSkFsB
import Derived.Test.YtibdiikcigokjaaGreatSkFsA
namespace Go.Proofs.YtibdiikcigokjaaGreat
open Go Go.RowKit
set_option linter.unusedVariables false
set_option linter.unusedSimpArgs false

namespace Tb
open AF (ltB strLt_irrefl strLt_trans strLt_total)
abbrev T (V : Type) := List (ByteArray × V)
section
variable {V : Type}
def get (l : T V) (k : ByteArray) : Option V := (l.find? fun p => decide (p.1 = k)).map (·.2)
def set (k : ByteArray) (v : V) : T V → T V
  | [] => [(k, v)]
  | p :: l => if p.1 = k then (k, v) :: l else if ltB k p.1 then (k, v) :: p :: l else p :: set k v l
def del (l : T V) (k : ByteArray) : T V := l.filter fun p => !decide (p.1 = k)
def Up (l : T V) : Prop := l.Pairwise fun p q => ltB p.1 q.1 = true
theorem Up.nil : Up ([] : T V) := List.Pairwise.nil
theorem Up.tail {p : ByteArray × V} {l : T V} (h : Up (p :: l)) : Up l := (List.pairwise_cons.1 h).2
theorem Up.head {p : ByteArray × V} {l : T V} (h : Up (p :: l)) : ∀ q ∈ l, ltB p.1 q.1 = true := (List.pairwise_cons.1 h).1
theorem lt_ne {a b : ByteArray} (h : ltB a b = true) : a ≠ b := fun e => strLt_irrefl b (by rw [e] at h; exact h)
theorem Up.nodup {l : T V} (h : Up l) : (l.map (·.1)).Nodup := by
  unfold List.Nodup
  rw [List.pairwise_map]
  exact h.imp fun h => lt_ne h
theorem mem_set {k : ByteArray} {v : V} {q : ByteArray × V} : ∀ {l : T V}, q ∈ set k v l → q = (k, v) ∨ q ∈ l
  | [], h => by simp only [set, List.mem_singleton] at h; exact .inl h
  | p :: l, h => by
    unfold set at h
    split at h
    · rcases List.mem_cons.1 h with h | h
      · exact .inl h
      · exact .inr (List.mem_cons_of_mem _ h)
    · split at h
      · rcases List.mem_cons.1 h with h | h
        · exact .inl h
        · exact .inr h
      · rcases List.mem_cons.1 h with h | h
        · exact .inr (h ▸ List.mem_cons_self ..)
        · rcases mem_set h with h | h
          · exact .inl h
          · exact .inr (List.mem_cons_of_mem _ h)
theorem Up.set (k : ByteArray) (v : V) : ∀ {l : T V}, Up l → Up (set k v l)
  | [], _ => List.pairwise_singleton _ _
  | p :: l, h => by
    unfold Tb.set
    split
    · rename_i e
      refine List.pairwise_cons.2 ⟨fun q hq => ?_, h.tail⟩
      rw [← e]
      exact h.head q hq
    · rename_i e
      split
      · rename_i e2
        refine List.pairwise_cons.2 ⟨fun q hq => ?_, h⟩
        rcases List.mem_cons.1 hq with rfl | hq
        · exact e2
        · exact strLt_trans e2 (h.head q hq)
      · rename_i e2
        refine List.pairwise_cons.2 ⟨fun q hq => ?_, Up.set k v h.tail⟩
        rcases mem_set hq with rfl | hq
        · exact strLt_total (fun hh => e hh.symm) (by simpa using e2)
        · exact h.head q hq
theorem Up.del {l : T V} (h : Up l) (k : ByteArray) : Up (del l k) := h.filter _
theorem get_none {l : T V} {k : ByteArray} : get l k = none ↔ ∀ p ∈ l, p.1 ≠ k := by
  unfold get
  rw [Option.map_eq_none_iff, List.find?_eq_none]
  exact ⟨fun h p hp => by simpa using h p hp, fun h p hp => by simpa using h p hp⟩
theorem get_mem {l : T V} {k : ByteArray} {v : V} (h : get l k = some v) : (k, v) ∈ l := by
  unfold get at h
  rw [Option.map_eq_some_iff] at h
  obtain ⟨p, hp, rfl⟩ := h
  have h1 := List.mem_of_find?_eq_some hp
  have h2 := List.find?_some hp
  simp only [decide_eq_true_eq] at h2
  rw [← h2]
  exact h1
theorem get_of {l : T V} (h : (l.map (·.1)).Nodup) {k : ByteArray} {v : V} (hm : (k, v) ∈ l) : get l k = some v := by
  induction l with
  | nil => cases hm
  | cons p l ih =>
    simp only [List.map_cons, List.nodup_cons] at h
    unfold get
    rw [List.find?_cons]
    by_cases hp : p.1 = k
    · rw [decide_eq_true hp]
      rcases List.mem_cons.1 hm with rfl | hm
      · rfl
      · exact absurd (List.mem_map.2 ⟨(k, v), hm, rfl⟩) (by rw [← hp] at *; exact h.1)
    · rw [decide_eq_false hp]
      rcases List.mem_cons.1 hm with rfl | hm
      · exact absurd rfl hp
      · exact ih h.2 hm
theorem get_iff {l : T V} (h : (l.map (·.1)).Nodup) {k : ByteArray} {v : V} : get l k = some v ↔ (k, v) ∈ l := ⟨get_mem, get_of h⟩
/-- Two that rise and have the same are the same. -/
theorem Up.ext : ∀ {a b : T V}, Up a → Up b → (∀ k, get a k = get b k) → a = b
  | [], [], _, _, _ => rfl
  | [], q :: b, _, hb, h => by
    have := h q.1
    rw [show get (q :: b) q.1 = some q.2 from get_of hb.nodup (List.mem_cons_self ..)] at this
    cases this
  | p :: a, [], ha, _, h => by
    have := h p.1
    rw [show get (p :: a) p.1 = some p.2 from get_of ha.nodup (List.mem_cons_self ..)] at this
    cases this
  | p :: a, q :: b, ha, hb, h => by
    have h1 : get (q :: b) p.1 = some p.2 := by rw [← h]; exact get_of ha.nodup (List.mem_cons_self ..)
    have h2 : get (p :: a) q.1 = some q.2 := by rw [h]; exact get_of hb.nodup (List.mem_cons_self ..)
    have m1 := get_mem h1
    have m2 := get_mem h2
    have e : p = q := by
      rcases List.mem_cons.1 m1 with e | m1
      · exact e
      · rcases List.mem_cons.1 m2 with e | m2
        · exact e.symm
        · exact absurd (strLt_trans (hb.head _ m1) (ha.head _ m2)) (strLt_irrefl _)
    subst e
    congr 1
    refine Up.ext ha.tail hb.tail fun k => ?_
    have hk := h k
    unfold get at hk ⊢
    by_cases hp : p.1 = k
    · have na : a.find? (fun x => decide (x.1 = k)) = none := by
        rw [List.find?_eq_none]
        intro x hx
        have := lt_ne (ha.head x hx)
        simp only [decide_eq_true_eq]
        exact fun e => this (hp.trans e.symm)
      have nb : b.find? (fun x => decide (x.1 = k)) = none := by
        rw [List.find?_eq_none]
        intro x hx
        have := lt_ne (hb.head x hx)
        simp only [decide_eq_true_eq]
        exact fun e => this (hp.trans e.symm)
      rw [na, nb]
    · rw [List.find?_cons, List.find?_cons, decide_eq_false hp] at hk
      exact hk
theorem get_set {k : ByteArray} {v : V} (q : ByteArray) : ∀ {l : T V}, get (set k v l) q = if k = q then some v else get l q
  | [] => by
    unfold set get
    by_cases h : k = q <;> simp [h]
  | p :: l => by
    unfold set
    split
    · rename_i e
      unfold get
      by_cases h : k = q
      · simp [h]
      · have : ¬ p.1 = q := by rw [e]; exact h
        simp [h, this]
    · rename_i e
      split
      · unfold get
        by_cases h : k = q <;> simp [h]
      · unfold get
        by_cases hp : p.1 = q
        · have : ¬ k = q := fun h => e (hp.trans h.symm)
          simp [hp, this]
        · have ih := get_set (k := k) (v := v) q (l := l)
          unfold get at ih
          simp only [List.find?_cons, hp, decide_false]
          exact ih
theorem get_del {k : ByteArray} (q : ByteArray) {l : T V} : get (del l k) q = if k = q then none else get l q := by
  unfold get del
  induction l with
  | nil => simp
  | cons p l ih =>
    by_cases hp : p.1 = k
    · have e1 : (p :: l).filter (fun p => !decide (p.1 = k)) = l.filter fun p => !decide (p.1 = k) := by simp [List.filter_cons, hp]
      rw [e1, ih]
      by_cases h : k = q
      · simp [h]
      · have : ¬ p.1 = q := fun e => h (hp.symm.trans e)
        simp [h, this]
    · have e1 : (p :: l).filter (fun p => !decide (p.1 = k)) = p :: l.filter fun p => !decide (p.1 = k) := by simp [List.filter_cons, hp]
      rw [e1]
      by_cases hq : p.1 = q
      · have : ¬ k = q := fun h => hp (hq.trans h.symm)
        simp [hq, this]
      · rw [List.find?_cons, List.find?_cons, decide_eq_false hq]
        exact ih
theorem set_length (k : ByteArray) (v : V) : ∀ l : T V, (set k v l).length ≤ l.length + 1
  | [] => Nat.le_refl _
  | p :: l => by
    unfold set
    split
    · exact Nat.le_succ _
    · split
      · exact Nat.le_refl _
      · have := set_length k v l
        simp only [List.length_cons]
        omega
theorem del_none {l : T V} {k : ByteArray} (h : get l k = none) : del l k = l := by
  rw [get_none] at h
  exact List.filter_eq_self.2 fun p hp => by simpa using h p hp
theorem set_keys {v : V} {k : ByteArray} : ∀ {l : T V}, Up l → (get l k).isSome = true → (set k v l).map (·.1) = l.map (·.1)
  | [], _, h => by cases h
  | p :: l, U, h => by
    unfold set
    split
    · rename_i e
      rw [List.map_cons, List.map_cons, e]
    · rename_i e
      have hl : (get l k).isSome = true := by
        unfold get at h ⊢
        rw [List.find?_cons, decide_eq_false e] at h
        exact h
      split
      · rename_i e2
        exfalso
        cases hg : get l k with
        | none => rw [hg] at hl; cases hl
        | some x => exact strLt_irrefl _ (strLt_trans e2 (U.head _ (get_mem hg)))
      · rw [List.map_cons, List.map_cons, set_keys U.tail hl]

/-! ### a map in whatever order -/
/-- A map's list has just what a table has. -/
def Has (enc : V → Value) (m : List (ByteArray × Value)) (l : T V) : Prop := m.Perm (l.map fun p => (p.1, enc p.2)) ∧ Up l
theorem Has.nodup {enc : V → Value} {m : List (ByteArray × Value)} {l : T V} (h : Has enc m l) : (m.map (·.1)).Nodup := by
  have := (h.1.map (·.1)).nodup_iff.2 (by rw [List.map_map]; exact h.2.nodup)
  exact this
theorem lk_perm {m n : List (ByteArray × Value)} (h : m.Perm n) (hn : (m.map (·.1)).Nodup) (k : ByteArray) : lkM m k = lkM n k := by
  have hn2 : (n.map (·.1)).Nodup := (h.map _).nodup_iff.1 hn
  show get m k = get n k
  cases hm : get m k with
  | none =>
    symm
    rw [get_none] at hm ⊢
    exact fun p hp => hm p (h.mem_iff.2 hp)
  | some v => exact (get_of hn2 (h.mem_iff.1 (get_mem hm))).symm
theorem lk_map {enc : V → Value} : ∀ (l : T V) (k : ByteArray), lkM (l.map fun p => (p.1, enc p.2)) k = (get l k).map enc
  | [], k => rfl
  | p :: l, k => by
    have ih := lk_map (enc := enc) l k
    unfold lkM get at ih ⊢
    rw [List.map_cons, List.find?_cons, List.find?_cons]
    by_cases h : p.1 = k
    · simp [h]
    · simp only [h, decide_false]
      exact ih
theorem Has.lk {enc : V → Value} {m : List (ByteArray × Value)} {l : T V} (h : Has enc m l) (k : ByteArray) : lkM m k = (get l k).map enc := by
  rw [lk_perm h.1 h.nodup, lk_map]
theorem perm_of_get {m : List (ByteArray × Value)} {enc : V → Value} {l : T V} (hn : (m.map (·.1)).Nodup) (U : Up l) (h : ∀ k, get m k = (get l k).map enc) : Has enc m l := by
  refine ⟨?_, U⟩
  have hn2 : ((l.map fun p => (p.1, enc p.2)).map (·.1)).Nodup := by rw [List.map_map]; exact U.nodup
  have nd : ∀ {x : List (ByteArray × Value)}, (x.map (·.1)).Nodup → x.Nodup := fun h => (List.pairwise_map.1 h).imp fun h e => h (by rw [e])
  rw [List.perm_ext_iff_of_nodup (nd hn) (nd hn2)]
  rintro ⟨k, v⟩
  rw [← get_iff hn, h k, ← lk_map (enc := enc) l k]
  exact get_iff hn2
theorem updM_keys {m : List (ByteArray × Value)} {k : ByteArray} {v : Value} (hn : (m.map (·.1)).Nodup) : ((updM m k v).map (·.1)).Nodup := by
  unfold updM
  split
  · have : (m.map fun p => if p.1 = k then (k, v) else p).map (·.1) = m.map (·.1) := by
      rw [List.map_map]
      apply List.map_congr_left
      intro p _
      simp only [Function.comp]
      split
      · rename_i e; exact e.symm
      · rfl
    rw [this]
    exact hn
  · rename_i h
    rw [List.map_append, List.nodup_append]
    refine ⟨hn, by simp, ?_⟩
    intro a ha b hb e
    simp only [List.map_cons, List.map_nil, List.mem_singleton] at hb
    obtain ⟨p, hp, rfl⟩ := List.mem_map.1 ha
    have := (List.any_eq_false.1 (Bool.eq_false_iff.2 h)) p hp
    simp only [decide_eq_true_eq] at this
    exact this (e.trans hb)
theorem get_updM {m : List (ByteArray × Value)} {k : ByteArray} {v : Value} (q : ByteArray) : get (updM m k v) q = if k = q then some v else get m q := by
  unfold updM
  split
  · rename_i h
    by_cases hq : k = q
    · subst hq
      rw [if_pos rfl]
      obtain ⟨p, hp, hpk⟩ := List.any_eq_true.1 h
      simp only [decide_eq_true_eq] at hpk
      clear h
      unfold get
      induction m with
      | nil => cases hp
      | cons x m ih =>
        rw [List.map_cons, List.find?_cons]
        by_cases hx : x.1 = k
        · simp [hx]
        · rcases List.mem_cons.1 hp with rfl | hp
          · exact absurd hpk hx
          · simp only [hx, if_false, decide_false]
            exact ih hp
    · rw [if_neg hq]
      clear h
      unfold get
      induction m with
      | nil => rfl
      | cons x m ih =>
        rw [List.map_cons, List.find?_cons, List.find?_cons]
        by_cases hx : x.1 = k
        · have h2 : ¬ x.1 = q := fun e => hq (hx.symm.trans e)
          simp only [hx, if_true, hq, decide_false]
          exact ih
        · simp only [hx, if_false]
          by_cases h2 : x.1 = q
          · simp [h2]
          · simp only [h2, decide_false]
            exact ih
  · rename_i h
    have hno : ∀ p ∈ m, p.1 ≠ k := fun p hp e => h (List.any_eq_true.2 ⟨p, hp, decide_eq_true e⟩)
    unfold get
    rw [List.find?_append]
    by_cases hq : k = q
    · subst hq
      have : m.find? (fun p => decide (p.1 = k)) = none := List.find?_eq_none.2 fun p hp => by simpa using hno p hp
      simp [this]
    · simp [hq]
theorem Has.upd {enc : V → Value} {m : List (ByteArray × Value)} {l : T V} (h : Has enc m l) (k : ByteArray) (v : V) : Has enc (updM m k (enc v)) (set k v l) := by
  refine perm_of_get (updM_keys h.nodup) (h.2.set k v) fun q => ?_
  rw [get_updM, get_set]
  split
  · rfl
  · exact h.lk q
theorem Has.del {enc : V → Value} {m : List (ByteArray × Value)} {l : T V} (h : Has enc m l) (k : ByteArray) : Has enc (delM m k) (del l k) := by
  refine perm_of_get (h.nodup.sublist (List.filter_sublist.map _)) (h.2.del k) fun q => ?_
  have e : get (delM m k) q = if k = q then none else get m q := get_del (V := Value) q
  rw [e, get_del]
  split
  · rfl
  · exact h.lk q
theorem Has.new (enc : V → Value) : Has enc [] ([] : T V) := ⟨.nil, Up.nil⟩
theorem Has.len {enc : V → Value} {m : List (ByteArray × Value)} {l : T V} (h : Has enc m l) : m.length = l.length := by rw [h.1.length_eq, List.length_map]
/-- Sorted keys. -/
theorem sorted_keys {ks : List ByteArray} (h : ks.Pairwise fun a b => ltB a b = true) : sortB ks = ks := by
  unfold sortB
  rw [List.mergeSort_of_pairwise]
  · rw [List.map_map]
    conv => rhs; rw [← List.map_id ks]
    apply List.map_congr_left
    intro s _
    rfl
  · rw [List.pairwise_map]
    refine h.imp fun {a b} hab => ?_
    simp only [decide_eq_true_eq]
    exact List.le_of_lt ((AF.strLt_iff a b).1 hab)
theorem Has.keys {enc : V → Value} {m : List (ByteArray × Value)} {l : T V} (h : Has enc m l) : sortB (m.map (·.1)) = l.map (·.1) := by
  rw [sortB_perm (h.1.map (·.1)), List.map_map]
  exact sorted_keys (by rw [List.pairwise_map]; exact h.2)
end
end Tb

end Go.Proofs.YtibdiikcigokjaaGreat
