/- What changed, and changes that are done (seat T). -/
import Derived.Test.YtibdiikcigokjaaGreatSkTb3
namespace Go.Proofs.YtibdiikcigokjaaGreat.TS
open Go Go.RowKit
open Tb (T get set del Up Has)
open AF (ltB strLt_irrefl strLt_trans strLt_total)
set_option linter.unusedVariables false
set_option linter.unusedSimpArgs false

abbrev Ch := ByteArray × VT × Bool
abbrev chC (x : Ch) : List Value := [.string x.1, ve x.2.1, .bool x.2.2]
/-- How many bytes a change is. -/
abbrev chB : Nat := 40
/-- What changed at a key. -/
def dget (a b : T VT) (k : ByteArray) : Option (VT × Bool) := match get b k with
  | some v => if get a k = some v then none else some (v, false)
  | none => if (get a k).isSome then some (vz, true) else none
def raw1 (a b : T VT) : List Ch := (b.filter fun p => !decide (get a p.1 = some p.2)).map fun p => (p.1, p.2, false)
def raw2 (a b : T VT) : List Ch := (a.filter fun p => (get b p.1).isNone).map fun p => (p.1, vz, true)
theorem raw1_keys (a b : T VT) : (raw1 a b).map (fun x : Ch => x.1) = (b.filter fun p => !decide (get a p.1 = some p.2)).map (·.1) := by rw [raw1, List.map_map]; rfl
theorem raw2_keys (a b : T VT) : (raw2 a b).map (fun x : Ch => x.1) = (a.filter fun p => (get b p.1).isNone).map (·.1) := by rw [raw2, List.map_map]; rfl
theorem raw_nodup {a b : T VT} (Ua : Up a) (Ub : Up b) : ((raw1 a b ++ raw2 a b).map (fun x : Ch => x.1)).Nodup := by
  rw [List.map_append, List.nodup_append, raw1_keys, raw2_keys]
  refine ⟨Ub.nodup.sublist (List.filter_sublist.map _), Ua.nodup.sublist (List.filter_sublist.map _), ?_⟩
  intro x hx y hy e
  obtain ⟨p, hp, rfl⟩ := List.mem_map.1 hx
  obtain ⟨q, hq, rfl⟩ := List.mem_map.1 hy
  have h1 := (List.mem_filter.1 hp).1
  have h2 := (List.mem_filter.1 hq).2
  rw [← e, Tb.get_of Ub.nodup h1] at h2
  cases h2
theorem raw_get {a b : T VT} (Ua : Up a) (Ub : Up b) (k : ByteArray) : get (V := VT × Bool) (raw1 a b ++ raw2 a b) k = dget a b k := by
  have hn := raw_nodup Ua Ub
  unfold dget
  cases hb : get b k with
  | some v =>
    have hbm := Tb.get_mem hb
    by_cases ha : get a k = some v
    · simp only [ha, if_true]
      rw [Tb.get_none]
      intro p hp e
      rcases List.mem_append.1 hp with hp | hp
      · obtain ⟨q, hq, rfl⟩ := List.mem_map.1 hp
        obtain ⟨h1, h2⟩ := List.mem_filter.1 hq
        have h3 := Tb.get_of Ub.nodup h1
        simp only at e
        rw [e, hb] at h3
        cases h3
        rw [e, ha] at h2
        simp at h2
      · obtain ⟨q, hq, rfl⟩ := List.mem_map.1 hp
        have h2 := (List.mem_filter.1 hq).2
        simp only at e
        rw [e, hb] at h2
        cases h2
    · simp only [ha, if_false]
      refine Tb.get_of hn (List.mem_append.2 (.inl (List.mem_map.2 ⟨(k, v), List.mem_filter.2 ⟨hbm, ?_⟩, rfl⟩)))
      simp [ha]
  | none =>
    simp only []
    cases ha : get a k with
    | none =>
      simp only [Option.isSome_none, Bool.false_eq_true, if_false]
      rw [Tb.get_none]
      intro p hp e
      rcases List.mem_append.1 hp with hp | hp
      · obtain ⟨q, hq, rfl⟩ := List.mem_map.1 hp
        have h1 := Tb.get_of Ub.nodup (List.mem_filter.1 hq).1
        simp only at e
        rw [e, hb] at h1
        cases h1
      · obtain ⟨q, hq, rfl⟩ := List.mem_map.1 hp
        have h1 := Tb.get_of Ua.nodup (List.mem_filter.1 hq).1
        simp only at e
        rw [e, ha] at h1
        cases h1
    | some x =>
      simp only [Option.isSome_some, if_true]
      refine Tb.get_of hn (List.mem_append.2 (.inr (List.mem_map.2 ⟨(k, x), List.mem_filter.2 ⟨Tb.get_mem ha, ?_⟩, rfl⟩)))
      simp [hb]
/-- The changes, rising. -/
structure Diffs (a b : T VT) (d : List Ch) : Prop where
  up : Up (V := VT × Bool) d
  at_ : ∀ k, get (V := VT × Bool) d k = dget a b k
theorem Diffs.of {a b : T VT} {d : List Ch} (Ua : Up a) (Ub : Up b) (hp : d.Perm (raw1 a b ++ raw2 a b)) (hs : d.Pairwise fun x y => ltB y.1 x.1 = false) : Diffs a b d := by
  have hn := raw_nodup Ua Ub
  have hnd : (d.map (fun x : Ch => x.1)).Nodup := (hp.map _).nodup_iff.2 hn
  refine ⟨?_, fun k => ?_⟩
  · refine (List.Pairwise.and hs (List.pairwise_map.1 hnd)).imp fun {x y} h => ?_
    exact strLt_total (fun e => h.2 e.symm) (by rw [h.1]; simp)
  · rw [← raw_get Ua Ub k]
    cases hg : get (V := VT × Bool) (raw1 a b ++ raw2 a b) k with
    | none =>
      rw [Tb.get_none] at hg ⊢
      exact fun p hp2 => hg p (hp.mem_iff.1 hp2)
    | some v => exact Tb.get_of hnd (hp.mem_iff.2 (Tb.get_mem hg))
theorem Diffs.of_len {a b : T VT} {d : List Ch} (D : Diffs a b d) (Ua : Up a) (Ub : Up b) : d.length ≤ a.length + b.length := by
  let r := raw1 a b ++ raw2 a b
  have hn := raw_nodup Ua Ub
  have hsub : ∀ x ∈ d, x ∈ r := fun x hx => by
    have h1 : get (V := VT × Bool) d x.1 = some x.2 := Tb.get_of D.up.nodup hx
    rw [D.at_, ← raw_get Ua Ub] at h1
    exact Tb.get_mem h1
  letI : BEq Ch := @instBEqOfDecidableEq Ch inferInstance
  have hlen : ∀ (d r : List Ch), d.Nodup → (∀ x ∈ d, x ∈ r) → d.length ≤ r.length := by
    intro d
    induction d with
    | nil => intro r _ _; exact Nat.zero_le _
    | cons x d ih =>
      intro r hd hs
      rw [List.nodup_cons] at hd
      have hx := hs x (by simp)
      have h2 := ih (r.erase x) hd.2 fun y hy => (List.mem_erase_of_ne (fun e => hd.1 (by rw [← e]; exact hy))).2 (hs y (by simp [hy]))
      rw [List.length_erase_of_mem hx] at h2
      have := List.length_pos_of_mem hx
      rw [List.length_cons]
      omega
  have hdn : d.Nodup := (List.Pairwise.of_map (S := fun a b : ByteArray => a ≠ b) (fun x : Ch => x.1) (fun a b h e => h (by rw [e])) D.up.nodup)
  refine Nat.le_trans (hlen d r hdn hsub) ?_
  show (raw1 a b ++ raw2 a b).length ≤ _
  rw [List.length_append, raw1, raw2, List.length_map, List.length_map]
  have h1 := List.length_filter_le (fun p : ByteArray × VT => !decide (get a p.1 = some p.2)) b
  have h2 := List.length_filter_le (fun p : ByteArray × VT => (get b p.1).isNone) a
  omega
/-- Changes that are done. -/
def appL (l : T VT) (es : List Ch) : T VT := es.foldl (fun l x => if x.2.2 = true then del l x.1 else set x.1 x.2.1 l) l
theorem appL_up {l : T VT} (U : Up l) : ∀ (es : List Ch), Up (appL l es) := by
  intro es
  unfold appL
  induction es generalizing l with
  | nil => exact U
  | cons x es ih =>
    rw [List.foldl_cons]
    split
    · exact ih (U.del _)
    · exact ih (U.set _ _)
theorem appL_get {k : ByteArray} : ∀ (es : List Ch) (l : T VT), (es.map (fun x : Ch => x.1)).Nodup → get (appL l es) k = match get (V := VT × Bool) es k with
    | some (v, g) => if g = true then none else some v
    | none => get l k
  | [], l, _ => rfl
  | x :: es, l, hn => by
    simp only [List.map_cons, List.nodup_cons] at hn
    have ih := appL_get (k := k) es (if x.2.2 = true then del l x.1 else set x.1 x.2.1 l) hn.2
    have e0 : appL l (x :: es) = appL (if x.2.2 = true then del l x.1 else set x.1 x.2.1 l) es := rfl
    rw [e0, ih]
    by_cases h : x.1 = k
    · have hno : get (V := VT × Bool) es k = none := by
        rw [Tb.get_none]
        intro p hp e
        exact hn.1 (List.mem_map.2 ⟨p, hp, by rw [e, h]⟩)
      have hx : get (V := VT × Bool) (x :: es) k = some x.2 := by
        unfold Tb.get
        rw [List.find?_cons, decide_eq_true h]
        rfl
      rw [hno, hx]
      simp only []
      split
      · rw [Tb.get_del, if_pos h]
      · rw [Tb.get_set, if_pos h]
    · have hx : get (V := VT × Bool) (x :: es) k = get (V := VT × Bool) es k := by
        unfold Tb.get
        rw [List.find?_cons, decide_eq_false h]
      rw [hx]
      cases hg : get (V := VT × Bool) es k with
      | some y => rfl
      | none =>
        simp only []
        split
        · rw [Tb.get_del, if_neg h]
        · rw [Tb.get_set, if_neg h]
theorem apply_diff {a b : T VT} {d : List Ch} (Ua : Up a) (Ub : Up b) (D : Diffs a b d) : appL a d = b := by
  refine Tb.Up.ext (appL_up Ua d) Ub fun k => ?_
  rw [appL_get d a D.up.nodup, D.at_]
  unfold dget
  cases hb : get b k with
  | some v =>
    simp only []
    by_cases ha : get a k = some v
    · simp [ha]
    · simp [ha]
  | none =>
    simp only []
    cases ha : get a k with
    | none => rfl
    | some x => rfl
end Go.Proofs.YtibdiikcigokjaaGreat.TS
