/- Dealt fairly: the plain law (needs nothing of the program). -/
import Derived.Test.YticjjdhaikbdaaaGreatDoorSnDl1
namespace Go.Proofs.YticjjdhaikbdaaaGreatDoor.Dl

def sm : List Int → Int
  | [] => 0
  | x :: l => x + sm l
/-- What a heap has. -/
def pos (x : Int) : Int := if x < 0 then 0 else x
theorem pos_spec (x : Int) : (x < 0 ∧ pos x = 0) ∨ (0 ≤ x ∧ pos x = x) := by
  unfold pos
  split
  · exact .inl ⟨by assumption, rfl⟩
  · exact .inr ⟨by omega, rfl⟩
theorem lv {r : Int} {p : Int × Int} (h : p.2 = if pos p.1 ≤ r then pos p.1 else r) : (pos p.1 ≤ r ∧ p.2 = pos p.1) ∨ (r < pos p.1 ∧ p.2 = r) := by
  split at h
  · exact .inl ⟨by assumption, h⟩
  · exact .inr ⟨by omega, h⟩
def got (l : LP) : Int := sm (l.map (·.2))
def all (l : LP) : Int := sm (l.map fun p => pos p.1)
theorem got_cons (p : Int × Int) (l : LP) : got (p :: l) = p.2 + got l := rfl
theorem all_cons (p : Int × Int) (l : LP) : all (p :: l) = pos p.1 + all l := rfl
/-- Everybody has r, or all. -/
def Lvl (r : Int) (l : LP) : Prop := ∀ p ∈ l, p.2 = if pos p.1 ≤ r then pos p.1 else r
/-- Of two that could have more, the later has no more, and at most one less. -/
def Ord (l : LP) : Prop := l.Pairwise fun q p => p.2 < p.1 → q.2 < q.1 → p.2 ≤ q.2 ∧ q.2 ≤ p.2 + 1
theorem lvl_open {r : Int} {p : Int × Int} (hr : 0 ≤ r) (h : p.2 = if pos p.1 ≤ r then pos p.1 else r) : (isOpen p = true → p.2 = r ∧ r < p.1) ∧ (isOpen p = false → p.2 = pos p.1 ∧ pos p.1 ≤ r) := by
  unfold isOpen
  have h1 := lv h
  have h2 := pos_spec p.1
  refine ⟨fun ho => ?_, fun ho => ?_⟩
  · simp only [Bool.and_eq_true, decide_eq_true_eq] at ho
    omega
  · simp only [Bool.and_eq_false_iff, decide_eq_false_iff_not] at ho
    omega
theorem Lvl.le {r : Int} : ∀ {l : LP}, Lvl r l → got l ≤ all l
  | [], _ => Int.le_refl _
  | p :: l, h => by
    have h1 := Lvl.le (l := l) fun q hq => h q (by simp [hq])
    have ep := h p (by simp)
    rw [got_cons, all_cons]
    split at ep <;> omega
theorem Lvl.full {r : Int} (hr : 0 ≤ r) : ∀ {l : LP}, Lvl r l → cnt l = 0 → got l = all l
  | [], _, _ => rfl
  | p :: l, h, hc => by
    rw [cnt_cons] at hc
    have ho : isOpen p = false := by
      cases h1 : isOpen p with
      | false => rfl
      | true => rw [if_pos h1] at hc; omega
    have h1 := Lvl.full hr (l := l) (fun q hq => h q (by simp [hq])) (by omega)
    have h2 := (lvl_open hr (h p (by simp))).2 ho
    rw [got_cons, all_cons, h1, h2.1]
end Go.Proofs.YticjjdhaikbdaaaGreatDoor.Dl
