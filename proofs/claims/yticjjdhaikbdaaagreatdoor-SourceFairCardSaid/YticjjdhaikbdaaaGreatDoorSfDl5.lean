/- Dealt fairly: the plain law (needs nothing of the program). -/
import Derived.Test.YticjjdhaikbdaaaGreatDoorSfDl1
namespace Go.Proofs.YticjjdhaikbdaaaGreatDoor.Dl

def sm : List Int → Int
  | [] => 0
  | x :: l => x + sm l
theorem sm_append : ∀ (a b : List Int), sm (a ++ b) = sm a + sm b
  | [], b => by simp [sm]
  | x :: a, b => by rw [List.cons_append, sm, sm, sm_append a b]; omega
/-- What a heap has. -/
def pos (x : Int) : Int := if x < 0 then 0 else x
theorem pos_spec (x : Int) : (x < 0 ∧ pos x = 0) ∨ (0 ≤ x ∧ pos x = x) := by
  unfold pos
  split
  · exact .inl ⟨by assumption, rfl⟩
  · exact .inr ⟨by omega, rfl⟩
theorem lv {r : Int} {p : Int × Int} (h : p.2 = if pos p.1 ≤ r then pos p.1 else r) : (pos p.1 ≤ r ∧ p.2 = pos p.1) ∨ (r < pos p.1 ∧ p.2 = r) := by
  split at h
  · exact .inl ⟨by assumption, h⟩
  · exact .inr ⟨by omega, h⟩
def got (l : LP) : Int := sm (l.map (·.2))
def all (l : LP) : Int := sm (l.map fun p => pos p.1)
theorem got_cons (p : Int × Int) (l : LP) : got (p :: l) = p.2 + got l := rfl
theorem all_cons (p : Int × Int) (l : LP) : all (p :: l) = pos p.1 + all l := rfl
/-- Everybody has r, or all. -/
def Lvl (r : Int) (l : LP) : Prop := ∀ p ∈ l, p.2 = if pos p.1 ≤ r then pos p.1 else r
/-- Of two that could have more, the later has no more, and at most one less. -/
def Ord (l : LP) : Prop := l.Pairwise fun q p => p.2 < p.1 → q.2 < q.1 → p.2 ≤ q.2 ∧ q.2 ≤ p.2 + 1
theorem lvl_open {r : Int} {p : Int × Int} (hr : 0 ≤ r) (h : p.2 = if pos p.1 ≤ r then pos p.1 else r) : (isOpen p = true → p.2 = r ∧ r < p.1) ∧ (isOpen p = false → p.2 = pos p.1 ∧ pos p.1 ≤ r) := by
  unfold isOpen
  have h1 := lv h
  have h2 := pos_spec p.1
  refine ⟨fun ho => ?_, fun ho => ?_⟩
  · simp only [Bool.and_eq_true, decide_eq_true_eq] at ho
    omega
  · simp only [Bool.and_eq_false_iff, decide_eq_false_iff_not] at ho
    omega
theorem Lvl.ord {r : Int} (hr : 0 ≤ r) : ∀ {l : LP}, Lvl r l → Ord l
  | [], _ => List.Pairwise.nil
  | p :: l, h => by
    refine List.pairwise_cons.2 ⟨fun q hq h1 h2 => ?_, Lvl.ord hr fun q hq => h q (by simp [hq])⟩
    have ep := lv (h p (by simp))
    have eq := lv (h q (by simp [hq]))
    have h3 := pos_spec p.1
    have h4 := pos_spec q.1
    omega
theorem Lvl.le {r : Int} : ∀ {l : LP}, Lvl r l → got l ≤ all l
  | [], _ => Int.le_refl _
  | p :: l, h => by
    have h1 := Lvl.le (l := l) fun q hq => h q (by simp [hq])
    have ep := h p (by simp)
    rw [got_cons, all_cons]
    split at ep <;> omega
theorem Lvl.full {r : Int} (hr : 0 ≤ r) : ∀ {l : LP}, Lvl r l → cnt l = 0 → got l = all l
  | [], _, _ => rfl
  | p :: l, h, hc => by
    rw [cnt_cons] at hc
    have ho : isOpen p = false := by
      cases h1 : isOpen p with
      | false => rfl
      | true => rw [if_pos h1] at hc; omega
    have h1 := Lvl.full hr (l := l) (fun q hq => h q (by simp [hq])) (by omega)
    have h2 := (lvl_open hr (h p (by simp))).2 ho
    rw [got_cons, all_cons, h1, h2.1]
theorem bump_lvl {r : Int} (hr : 0 ≤ r) : ∀ {l : LP}, Lvl r l → Lvl (r + 1) (bump 1 l) ∧ got (bump 1 l) = got l + (cnt l : Int) ∧ all (bump 1 l) = all l
  | [], _ => ⟨(fun p hp => by cases hp), rfl, rfl⟩
  | p :: l, h => by
    obtain ⟨h1, h2, h3⟩ := bump_lvl hr (l := l) fun q hq => h q (by simp [hq])
    have ep := h p (by simp)
    have hp := lvl_open hr ep
    have eb : bump 1 (p :: l) = (if isOpen p = true then (p.1, p.2 + 1) else p) :: bump 1 l := rfl
    rw [eb, got_cons, all_cons, h2, h3, cnt_cons, got_cons, all_cons]
    cases ho : isOpen p with
    | true =>
      have h4 := hp.1 ho
      rw [if_pos rfl, if_pos rfl]
      refine ⟨fun q hq => ?_, ?_, rfl⟩
      · rcases List.mem_cons.1 hq with rfl | hq
        · show p.2 + 1 = if pos p.1 ≤ r + 1 then pos p.1 else r + 1
          unfold pos
          split <;> split <;> omega
        · exact h1 q hq
      · show p.2 + 1 + (got l + (cnt l : Int)) = p.2 + got l + ((1 + cnt l : Nat) : Int)
        omega
    | false =>
      have h4 := hp.2 ho
      rw [if_neg (by decide), if_neg (by decide)]
      refine ⟨fun q hq => ?_, by omega, rfl⟩
      rcases List.mem_cons.1 hq with rfl | hq
      · rw [if_pos (by omega)]
        exact h4.1
      · exact h1 q hq
theorem pass_zero (e : Int) : ∀ (l : LP), pass e l 0 = (l, 0)
  | [] => rfl
  | p :: l => by rw [pass, if_neg (fun h => by have := h.2; omega), pass_zero e l]
/-- A last round, that is cut off. -/
theorem pass_cut {r : Int} (hr : 0 ≤ r) : ∀ {l : LP} {m : Int}, Lvl r l → 0 ≤ m → Ord (pass 1 l m).1 ∧ (∀ q ∈ (pass 1 l m).1, q.2 < q.1 → r ≤ q.2 ∧ q.2 ≤ r + 1) ∧ 0 ≤ (pass 1 l m).2 ∧ got (pass 1 l m).1 = got l + (m - (pass 1 l m).2) ∧ all (pass 1 l m).1 = all l ∧ (0 < (pass 1 l m).2 → m - (pass 1 l m).2 = (cnt l : Int))
  | [], m, _, hm => ⟨List.Pairwise.nil, (fun q hq => by cases hq), hm, by simp [pass], rfl, fun _ => by simp [pass, cnt]⟩
  | p :: l, m, h, hm => by
    have hl : Lvl r l := fun q hq => h q (by simp [hq])
    have hp := lvl_open hr (h p (by simp))
    rw [cnt_cons]
    unfold pass
    by_cases ho : isOpen p = true ∧ m > 0
    · rw [if_pos ho, if_pos ho.1]
      obtain ⟨h1, h2, h3, h4, h5, h6⟩ := pass_cut hr (l := l) (m := m - 1) hl (by omega)
      have h7 := hp.1 ho.1
      refine ⟨List.pairwise_cons.2 ⟨fun q hq hq1 _ => ?_, h1⟩, fun q hq hq1 => ?_, h3, ?_, ?_, fun h8 => ?_⟩
      · have := h2 q hq hq1
        show q.2 ≤ p.2 + 1 ∧ p.2 + 1 ≤ q.2 + 1
        omega
      · rcases List.mem_cons.1 hq with rfl | hq
        · show r ≤ p.2 + 1 ∧ p.2 + 1 ≤ r + 1
          omega
        · exact h2 q hq hq1
      · show p.2 + 1 + got (pass 1 l (m - 1)).1 = p.2 + got l + (m - (pass 1 l (m - 1)).2)
        omega
      · show pos p.1 + all (pass 1 l (m - 1)).1 = pos p.1 + all l
        rw [h5]
      · have := h6 h8
        show m - (pass 1 l (m - 1)).2 = ((1 + cnt l : Nat) : Int)
        omega
    · rw [if_neg ho]
      by_cases hm0 : m = 0
      · subst hm0
        rw [pass_zero]
        refine ⟨Lvl.ord hr h, fun q hq hq1 => ?_, Int.le_refl _, by show got (p :: l) = got (p :: l) + (0 - 0); omega, rfl, fun h8 => absurd h8 (Int.lt_irrefl _)⟩
        have eq := lv (h q hq)
        have h4 := pos_spec q.1
        omega
      · have hop : isOpen p = false := by
          cases h1 : isOpen p with
          | false => rfl
          | true => exact absurd ⟨h1, by omega⟩ ho
        obtain ⟨h1, h2, h3, h4, h5, h6⟩ := pass_cut hr (l := l) (m := m) hl hm
        have h7 := hp.2 hop
        have hsat : ¬ p.2 < p.1 := by
          have := h7.1
          have h4 := pos_spec p.1
          omega
        refine ⟨List.pairwise_cons.2 ⟨fun q hq _ hq2 => absurd hq2 hsat, h1⟩, fun q hq hq1 => ?_, h3, ?_, ?_, fun h8 => ?_⟩
        · rcases List.mem_cons.1 hq with rfl | hq
          · exact absurd hq1 hsat
          · exact h2 q hq hq1
        · show p.2 + got (pass 1 l m).1 = p.2 + got l + (m - (pass 1 l m).2)
          omega
        · show pos p.1 + all (pass 1 l m).1 = pos p.1 + all l
          rw [h5]
        · have := h6 h8
          rw [hop, if_neg (by decide)]
          show m - (pass 1 l m).2 = ((0 + cnt l : Nat) : Int)
          omega
theorem Ref.fair {l : LP} {m : Int} {s : LP} (h : Ref l m s) : ∀ {r : Int}, 0 ≤ r → Lvl r l → 0 ≤ m → Ord s ∧ all s = all l ∧ got s = if got l + m < all l then got l + m else all l := by
  induction h with
  | done hm =>
    intro r hr hl hm2
    refine ⟨Lvl.ord hr hl, rfl, ?_⟩
    have := Lvl.le hl
    split <;> omega
  | none hc =>
    intro r hr hl hm2
    refine ⟨Lvl.ord hr hl, rfl, ?_⟩
    have := Lvl.full hr hl hc
    split <;> omega
  | @step l m s hm hc hs ih =>
    intro r hr hl hm2
    by_cases hcm : (cnt l : Int) ≤ m
    · have e := pass_all 1 (by decide) l m (by omega)
      rw [e] at ih
      obtain ⟨h1, h2, h3⟩ := bump_lvl hr hl
      obtain ⟨i1, i2, i3⟩ := ih (r := r + 1) (by omega) h1 (by show 0 ≤ m - 1 * (cnt l : Int); omega)
      refine ⟨i1, by rw [i2, h3], ?_⟩
      rw [i3, h3]
      show (if got (bump 1 l) + (m - 1 * (cnt l : Int)) < all l then _ else _) = _
      rw [h2, show got l + (cnt l : Int) + (m - 1 * (cnt l : Int)) = got l + m by omega]
    · obtain ⟨h1, h2, h3, h4, h5, h6⟩ := pass_cut hr hl (m := m) hm2
      have h0 : (pass 1 l m).2 = 0 := by
        rcases Int.lt_or_eq_of_le h3 with h7 | h7
        · have := h6 h7; omega
        · exact h7.symm
      have es : s = (pass 1 l m).1 := hs.uniq (.done (by omega))
      subst es
      refine ⟨h1, h5, ?_⟩
      rw [h4, h0]
      have hb := bump_lvl hr hl
      have hle := Lvl.le hb.1
      rw [hb.2.1, hb.2.2] at hle
      rw [if_pos (by omega)]
      omega

end Go.Proofs.YticjjdhaikbdaaaGreatDoor.Dl
