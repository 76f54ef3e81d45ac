/- StateSnaps (seat S). -/
import Derived.Test.YtibdiikcigokjaaGreatSkStY
namespace Go.Proofs.YtibdiikcigokjaaGreat
open Go Go.RowKit Go.MapKept
set_option linter.unusedVariables false
set_option linter.unusedSimpArgs false
open AF (nmI IdOk Live Has Upd Dirc ltB goG)
open TS (Ch chC Diffs appL VT tabZ tabP)

/-- Slices of pairs that came in. -/
structure PSl where
  a : Option Addr
  l : Nat
  c : Nat
  ps : Prs
def PSl.v (q : PSl) : Value := .slice q.a q.l q.c
structure PIn (h : Heap) (q : PSl) : Prop where
  rd : RdC h q.a (q.ps.flatMap pairC)
  len : q.ps.length = q.l
  small : ∀ p ∈ q.ps, p.1.size ≤ 140737488355328 ∧ p.2.size ≤ 140737488355328
theorem PIn.old {h h' : Heap} {F : List HProp} {q : PSl} (H : PIn h q) (hs : sat (old h :: F) h') : PIn h' q := ⟨H.rd.old hs, H.len, H.small⟩
/-- The tables of some steps: what is too big counts as none. -/
def stepG (ss : List PSl) (k : Int) : Tb.T VT := if 1 ≤ k then (match ss[(k - 1).toNat]? with
  | some q => if bigL q.ps = true then [] else riseL q.ps
  | none => []) else []
theorem bigL_small {ps : Prs} (h : bigL ps = false) : ps.length ≤ 60 ∧ ∀ p ∈ ps, p.1.size + p.2.size ≤ 300 := by
  unfold bigL at h
  simp only [Bool.or_eq_false_iff, decide_eq_false_iff_not, List.any_eq_false, decide_eq_true_eq] at h
  exact ⟨by omega, fun p hp => by have := h.2 p hp; omega⟩
theorem stepG_facts (ss : List PSl) (k : Int) : Tb.Up (stepG ss k) ∧ (stepG ss k).length ≤ 60 ∧ ∀ p ∈ stepG ss k, p.1.size + p.2.size ≤ 300 := by
  have e : Tb.Up ([] : Tb.T VT) ∧ ([] : Tb.T VT).length ≤ 60 ∧ ∀ p ∈ ([] : Tb.T VT), p.1.size + p.2.size ≤ 300 := ⟨Tb.Up.nil, by simp, by simp⟩
  unfold stepG
  split
  · split
    · rename_i q _
      split
      · exact e
      · rename_i hb
        obtain ⟨h1, h2⟩ := bigL_small (by simpa using hb)
        exact ⟨riseL_up _, Nat.le_trans (riseL_len _) h1, fun p hp => h2 p (riseL_mem _ p hp)⟩
    · exact e
  · exact e
theorem stepG_at {ss : List PSl} {i : Nat} {q : PSl} (hq : ss[i]? = some q) (hb : bigL q.ps = false) : stepG ss ((i + 1 : Nat) : Int) = riseL q.ps := by
  unfold stepG
  rw [if_pos (by omega), show (((i + 1 : Nat) : Int) - 1).toNat = i by omega, hq]
  simp only [hb, Bool.false_eq_true, if_false]
theorem stepG_fit (ss : List PSl) (v : Int) (d : List Ch) (D : Diffs (stepG ss (v - 1)) (stepG ss v) d) : Fit (chPairs d) ∧ (pairsN (chPairs d)).length ≤ 38530 := by
  obtain ⟨u1, l1, s1⟩ := stepG_facts ss (v - 1)
  obtain ⟨u2, l2, s2⟩ := stepG_facts ss v
  exact (diffs_fit (n := 120) (m := 300) D u1 u2 (by omega) (by decide) s1 s2 (by decide)).imp id fun h => by omega
theorem stepG_fitS (ss : List PSl) (v : Int) : Fit (stepG ss v) ∧ (pairsN (stepG ss v)).length ≤ 19210 := by
  obtain ⟨u2, l2, s2⟩ := stepG_facts ss v
  exact (fit_of (n := 60) (m := 300) l2 (by decide) s2 (by decide)).imp id fun h => by omega
/-- Numbers from one on, as many as there may be. -/
theorem len_upto {D : List (Int × Unit)} (hu : UpT D) {n : Nat} (h : ∀ x, (x, ()) ∈ D → 1 ≤ x ∧ x ≤ (n : Int)) : D.length ≤ n := by
  have := AF.nodup_len (l := D.map (·.1)) (m := (List.range n).map fun j : Nat => (j : Int) + 1) hu.nodup fun x hx => by
    obtain ⟨h1, h2⟩ := h x (memU hx)
    exact List.mem_map.2 ⟨(x - 1).toNat, List.mem_range.2 (by omega), by omega⟩
  simpa using this
/-- Which numbers a store has behind snapshots and drops: all deltas behind the one snapshot. -/
structure JD (m : Int) (i : Nat) (S : Sto) : Prop where
  lo : 0 ≤ m
  hi : m ≤ (i : Int)
  D : ∀ x, (x, ()) ∈ S.D ↔ m < x ∧ x ≤ (i : Int)
  N : ∀ x, (x, ()) ∈ S.N ↔ x = m ∧ 1 ≤ m
theorem JD.len {m : Int} {i : Nat} {S : Sto} (J : JD m i S) (hD : UpT S.D) (hN : UpT S.N) : S.D.length ≤ i ∧ S.N.length ≤ 1 := by
  refine ⟨len_upto hD fun x hx => ?_, ?_⟩
  · have := (J.D x).1 hx
    have := J.lo
    omega
  · have := AF.nodup_len (l := S.N.map (·.1)) (m := [m]) hN.nodup fun x hx => by
      have := (J.N x).1 (memU hx)
      simp [this.1]
    simpa using this
theorem JD.near {m : Int} {i : Nat} {S : Sto} (J : JD m i S) (v : Int) (hv : 0 ≤ v) : nearL (S.N.map (·.1)) v = if 1 ≤ m ∧ m ≤ v then m else 0 := by
  obtain ⟨h1, h2, h3, h4⟩ := nearL_facts (S.N.map (·.1)) v hv
  split
  · rename_i h
    have := h4 m (memSet ((J.N m).2 ⟨rfl, h.1⟩)) h.2
    rcases h3 with h3 | h3
    · omega
    · exact ((J.N _).1 (memU h3)).1
  · rename_i h
    rcases h3 with h3 | h3
    · exact h3
    · have := (J.N _).1 (memU h3)
      omega
theorem JD.step {m s : Int} {i e : Nat} {S S' S'' : Sto} (J : JD m i S) (h1 : 1 ≤ s) (h2 : s ≤ (i : Int)) (D1 : S'.D = S.D) (N1 : ∀ p ∈ S.N, p ∈ S'.N) (N2 : ∀ p ∈ S'.N, p ∈ S.N ∨ (p.1 = s ∧ e = 0)) (N3 : e = 0 → (s, ()) ∈ S'.N)
    (N4 : e = 0 → (s, ()) ∈ S.N ∨ ∀ k, nearL (S.N.map (·.1)) s < k → k ≤ s → (k, ()) ∈ S.D) (Z : nearL (S'.N.map (·.1)) s = 0 → S'' = S')
    (NZ : nearL (S'.N.map (·.1)) s ≠ 0 → S''.D = S'.D.filter (fun x => !decide (x.1 ≤ nearL (S'.N.map (·.1)) s)) ∧ S''.N = S'.N.filter (fun x => !decide (x.1 < nearL (S'.N.map (·.1)) s))) : ∃ m', JD m' i S'' := by
  have lo := J.lo
  have hi := J.hi
  obtain ⟨n1, n2, n3, n4⟩ := nearL_facts (S'.N.map (·.1)) s (by omega)
  by_cases hadd : e = 0 ∧ (s, ()) ∉ S.N
  · obtain ⟨he, hno⟩ := hadd
    have hall := (N4 he).resolve_left hno
    have hsm : m < s := by
      rcases Int.lt_or_le m s with h | h
      · exact h
      · have hnear := J.near s (by omega)
        have hne : ¬ (1 ≤ m ∧ m ≤ s) := fun hh => hno ((J.N s).2 ⟨by omega, by omega⟩)
        rw [if_neg hne] at hnear
        have := (J.D s).1 (hall s (by omega) (Int.le_refl _))
        omega
    have hns : nearL (S'.N.map (·.1)) s = s := by
      have := n4 s (memSet (N3 he)) (Int.le_refl _)
      omega
    obtain ⟨e1, e2⟩ := NZ (by omega)
    rw [hns] at e1 e2
    refine ⟨s, by omega, h2, fun x => ?_, fun x => ?_⟩
    · rw [e1, D1, List.mem_filter, J.D]
      simp only [Bool.not_eq_true', decide_eq_false_iff_not]
      omega
    · rw [e2, List.mem_filter]
      simp only [Bool.not_eq_true', decide_eq_false_iff_not]
      constructor
      · rintro ⟨hx, hlt⟩
        rcases N2 _ hx with hx | ⟨hx, _⟩
        · have := (J.N x).1 hx
          omega
        · exact ⟨hx, h1⟩
      · rintro ⟨rfl, _⟩
        exact ⟨N3 he, by omega⟩
  · have same : ∀ x, (x, ()) ∈ S'.N ↔ (x, ()) ∈ S.N := fun x => by
      refine ⟨fun hx => ?_, fun hx => N1 _ hx⟩
      rcases N2 _ hx with hx | ⟨hx, he⟩
      · exact hx
      · have hx' : x = s := hx
        rw [hx']
        exact Classical.not_not.1 fun hh => hadd ⟨he, hh⟩
    have J' : JD m i S' := ⟨lo, hi, fun x => by rw [D1]; exact J.D x, fun x => by rw [same]; exact J.N x⟩
    by_cases h0 : nearL (S'.N.map (·.1)) s = 0
    · rw [Z h0]
      exact ⟨m, J'⟩
    · obtain ⟨e1, e2⟩ := NZ h0
      have hm : nearL (S'.N.map (·.1)) s = m := by
        have := J'.near s (by omega)
        split at this
        · exact this
        · exact absurd this h0
      rw [hm] at e1 e2
      refine ⟨m, lo, hi, fun x => ?_, fun x => ?_⟩
      · rw [e1, List.mem_filter, J'.D]
        simp only [Bool.not_eq_true', decide_eq_false_iff_not]
        omega
      · rw [e2, List.mem_filter, J'.N]
        simp only [Bool.not_eq_true', decide_eq_false_iff_not]
        omega
theorem JD.more {m : Int} {i : Nat} {S : Sto} (J : JD m i S) (hu : UpT S.D) : JD m (i + 1) (laidS S 100 ((i + 1 : Nat) : Int)) := by
  have lo := J.lo
  have hi := J.hi
  have eS : laidS S 100 ((i + 1 : Nat) : Int) = { S with D := setT ((i + 1 : Nat) : Int) () S.D } := if_pos rfl
  rw [eS]
  refine ⟨lo, by omega, fun x => ?_, J.N⟩
  rw [mem_setT hu, J.D, Prod.mk.injEq]
  constructor
  · rintro (⟨rfl, _⟩ | ⟨_, h⟩) <;> omega
  · intro h
    by_cases e : x = ((i + 1 : Nat) : Int)
    · exact .inl ⟨e, rfl⟩
    · exact .inr ⟨e, by omega⟩
section
variable {h : Heap}
end
end Go.Proofs.YtibdiikcigokjaaGreat
