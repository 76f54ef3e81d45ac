/- A rename over another file: wholly or not at all; what is safe stays. -/
import Derived.Test.YticjjdhaikbdaaaFs22
namespace Go.Proofs.Yticjjdhaikbdaaa
open Go Go.RowKit Go.MapKept
set_option linter.unusedVariables false
set_option linter.unusedSimpArgs false

namespace AF
theorem append_do {f : FS} {dir name : ByteArray} {b : List Nat} {i x : Nat} (he : f.entry dir name = .ok (i, x)) (hl : (f.X x).b.length + b.length ≤ 16777216) (hr : f.used + b.length ≤ f.room) :
    f.append dir name b = f.step fun g => g.setFile x fun y => { y with b := y.b ++ b } := by
  unfold FS.append
  rw [he]
  simp only [if_neg (Nat.not_lt.2 hl), if_neg (Nat.not_lt.2 hr)]
def S5 (e : List Nat) (fu : Option Nat) : FS := ⟨1048576, 5, fu, false, [⟨e, e.length⟩], [⟨dN, [(aN, 0)], [(aN, 0)], []⟩]⟩
/-- The state before the crash, by how many steps the fuse let through. -/
def R11 (e n : List Nat) : Nat → FS
  | 0 => ⟨1048576, 5, some 0, true, [⟨e, e.length⟩], [⟨dN, [(aN, 0)], [(aN, 0)], []⟩]⟩
  | 1 => ⟨1048576, 6, some 0, true, [⟨e, e.length⟩, ⟨[], 0⟩], [⟨dN, [(aN, 0), (tN, 1)], [(aN, 0)], [.create tN 1]⟩]⟩
  | 2 => ⟨1048576, 7, some 0, true, [⟨e, e.length⟩, ⟨n, 0⟩], [⟨dN, [(aN, 0), (tN, 1)], [(aN, 0)], [.create tN 1]⟩]⟩
  | 3 => ⟨1048576, 8, some 0, true, [⟨e, e.length⟩, ⟨n, n.length⟩], [⟨dN, [(aN, 0), (tN, 1)], [(aN, 0)], [.create tN 1]⟩]⟩
  | 4 => ⟨1048576, 9, some 0, true, [⟨e, e.length⟩, ⟨n, n.length⟩], [⟨dN, [(aN, 1)], [(aN, 0)], [.create tN 1, .rename tN aN]⟩]⟩
  | m + 5 => ⟨1048576, 10, some m, false, [⟨e, e.length⟩, ⟨n, n.length⟩], [⟨dN, [(aN, 1)], [(aN, 1)], []⟩]⟩
/-- How it comes to that. -/
theorem to5 (e : List Nat) (hl : e.length ≤ 4000) : ∃ A4 : FS, FS.append ⟨1048576, 2, none, false, [⟨[], 0⟩], [⟨dN, [(aN, 0)], [], [.create aN 0]⟩]⟩ dN aN e = (A4, 0) ∧ A4.steps = 3 ∧ ∃ A5, A4.sync dN aN = (A5, 0) ∧ A5.steps = 4 ∧ A5.syncDir dN = (S5 e none, 0) := by
  rw [append_do (i := 0) (x := 0) rfl (by show 0 + e.length ≤ 16777216; omega) (by show 0 + e.length ≤ 1048576; omega)]
  exact ⟨_, rfl, rfl, _, rfl, rfl, rfl⟩
theorem used2 (e : List Nat) (x : Nat) : (e.length + (x + 0)) = e.length + x := rfl
/-- The steps behind the fuse. -/
theorem toR (e n : List Nat) (hl : e.length + n.length ≤ 4000) (m : Nat) (hm : m < 7) : ∃ (A7 A8 A9 : FS) (e7 e8 e9 : Nat), (S5 e (some m)).create dN tN = (A7, e7) ∧ A7.append dN tN n = (A8, e8) ∧ A8.sync dN tN = (A9, e9) ∧ A7.steps ≤ 10 ∧ A8.steps ≤ 10 ∧ A9.steps ≤ 10 ∧
    ((e9 ≠ 0 ∧ ∃ e11, A9.syncDir dN = (R11 e n m, e11)) ∨ (e9 = 0 ∧ ∃ A10 e10 e11, A9.rename dN tN aN = (A10, e10) ∧ A10.steps ≤ 10 ∧ A10.syncDir dN = (R11 e n m, e11))) := by
  have ap : ∀ k, FS.append ⟨1048576, 6, some (k + 1), false, [⟨e, e.length⟩, ⟨[], 0⟩], [⟨dN, [(aN, 0), (tN, 1)], [(aN, 0)], [.create tN 1]⟩]⟩ dN tN n = (⟨1048576, 7, some k, false, [⟨e, e.length⟩, ⟨n, 0⟩], [⟨dN, [(aN, 0), (tN, 1)], [(aN, 0)], [.create tN 1]⟩]⟩, 0) := fun k => by
    rw [append_do (i := 0) (x := 1) rfl (by show 0 + n.length ≤ 16777216; omega) (by show e.length + (0 + 0) + n.length ≤ 1048576; omega)]
    rfl
  have ap0 : FS.append ⟨1048576, 6, some 0, false, [⟨e, e.length⟩, ⟨[], 0⟩], [⟨dN, [(aN, 0), (tN, 1)], [(aN, 0)], [.create tN 1]⟩]⟩ dN tN n = (⟨1048576, 6, some 0, true, [⟨e, e.length⟩, ⟨[], 0⟩], [⟨dN, [(aN, 0), (tN, 1)], [(aN, 0)], [.create tN 1]⟩]⟩, 60) := by
    rw [append_do (i := 0) (x := 1) rfl (by show 0 + n.length ≤ 16777216; omega) (by show e.length + (0 + 0) + n.length ≤ 1048576; omega)]
    rfl
  match m, hm with
  | 0, _ => exact ⟨_, _, _, _, _, _, rfl, rfl, rfl, Nat.le_of_ble_eq_true rfl, Nat.le_of_ble_eq_true rfl, Nat.le_of_ble_eq_true rfl, .inl ⟨by decide, _, rfl⟩⟩
  | 1, _ => exact ⟨_, _, _, _, _, _, rfl, ap0, rfl, Nat.le_of_ble_eq_true rfl, Nat.le_of_ble_eq_true rfl, Nat.le_of_ble_eq_true rfl, .inl ⟨by decide, _, rfl⟩⟩
  | 2, _ => exact ⟨_, _, _, _, _, _, rfl, ap 0, rfl, Nat.le_of_ble_eq_true rfl, Nat.le_of_ble_eq_true rfl, Nat.le_of_ble_eq_true rfl, .inl ⟨by decide, _, rfl⟩⟩
  | 3, _ => exact ⟨_, _, _, _, _, _, rfl, ap 1, rfl, Nat.le_of_ble_eq_true rfl, Nat.le_of_ble_eq_true rfl, Nat.le_of_ble_eq_true rfl, .inr ⟨rfl, _, _, _, rfl, Nat.le_of_ble_eq_true rfl, rfl⟩⟩
  | 4, _ => exact ⟨_, _, _, _, _, _, rfl, ap 2, rfl, Nat.le_of_ble_eq_true rfl, Nat.le_of_ble_eq_true rfl, Nat.le_of_ble_eq_true rfl, .inr ⟨rfl, _, _, _, rfl, Nat.le_of_ble_eq_true rfl, rfl⟩⟩
  | 5, _ => exact ⟨_, _, _, _, _, _, rfl, ap 3, rfl, Nat.le_of_ble_eq_true rfl, Nat.le_of_ble_eq_true rfl, Nat.le_of_ble_eq_true rfl, .inr ⟨rfl, _, _, _, rfl, Nat.le_of_ble_eq_true rfl, rfl⟩⟩
  | 6, _ => exact ⟨_, _, _, _, _, _, rfl, ap 4, rfl, Nat.le_of_ble_eq_true rfl, Nat.le_of_ble_eq_true rfl, Nat.le_of_ble_eq_true rfl, .inr ⟨rfl, _, _, _, rfl, Nat.le_of_ble_eq_true rfl, rfl⟩⟩
theorem take_all {e : List Nat} {m : Nat} (h1 : e.length ≤ m) (h2 : m ≤ e.length) : e.take m = e := List.take_of_length_le h1
/-- The law, plain. -/
theorem renames {e n : List Nat} {m : Nat} (hm : m < 7) (W : (R11 e n m).WF) (ps : List Int) : ∃ bs, ((R11 e n m).crash ps).read dN aN = .ok bs ∧ (bs = e ∨ bs = n) ∧ (R11 e n m).steps ≤ 10 ∧ ((R11 e n m).steps < 10 ∨ bs = n) := by
  have go : ∀ (d : Dir) (h0 : (R11 e n m).dirs[0]? = some d) (hd : d.name = dN) (hp : ∀ k, k ≤ d.pend.length → ∃ (x : Nat) (y : File), of (play d.base (d.pend.take k)) aN = some x ∧ (R11 e n m).files[x]? = some y ∧ y.safe = y.b.length ∧ (y.b = e ∨ y.b = n) ∧ ((R11 e n m).steps < 10 ∨ y.b = n)) (hs : (R11 e n m).steps ≤ 10),
      ∃ bs, ((R11 e n m).crash ps).read dN aN = .ok bs ∧ (bs = e ∨ bs = n) ∧ (R11 e n m).steps ≤ 10 ∧ ((R11 e n m).steps < 10 ∨ bs = n) := by
    intro d h0 hd hp hs
    obtain ⟨k, hk, _, hr⟩ := crash_read W ps h0
    obtain ⟨x, y, hx, hy, hsafe, hb, ht⟩ := hp k hk
    obtain ⟨j, h1, h2, hrd⟩ := hr aN x y hx hy
    rw [hd, take_all (by omega) h2] at hrd
    exact ⟨y.b, hrd, hb, hs, ht⟩
  match m, hm with
  | 0, _ => exact go _ rfl rfl (fun k hk => by match k, hk with | 0, _ => exact ⟨0, _, rfl, rfl, rfl, .inl rfl, .inl (Nat.le_of_ble_eq_true rfl)⟩) (Nat.le_of_ble_eq_true rfl)
  | 1, _ => exact go _ rfl rfl (fun k hk => by match k, hk with | 0, _ => exact ⟨0, _, rfl, rfl, rfl, .inl rfl, .inl (Nat.le_of_ble_eq_true rfl)⟩ | 1, _ => exact ⟨0, _, rfl, rfl, rfl, .inl rfl, .inl (Nat.le_of_ble_eq_true rfl)⟩) (Nat.le_of_ble_eq_true rfl)
  | 2, _ => exact go _ rfl rfl (fun k hk => by match k, hk with | 0, _ => exact ⟨0, _, rfl, rfl, rfl, .inl rfl, .inl (Nat.le_of_ble_eq_true rfl)⟩ | 1, _ => exact ⟨0, _, rfl, rfl, rfl, .inl rfl, .inl (Nat.le_of_ble_eq_true rfl)⟩) (Nat.le_of_ble_eq_true rfl)
  | 3, _ => exact go _ rfl rfl (fun k hk => by match k, hk with | 0, _ => exact ⟨0, _, rfl, rfl, rfl, .inl rfl, .inl (Nat.le_of_ble_eq_true rfl)⟩ | 1, _ => exact ⟨0, _, rfl, rfl, rfl, .inl rfl, .inl (Nat.le_of_ble_eq_true rfl)⟩) (Nat.le_of_ble_eq_true rfl)
  | 4, _ => exact go _ rfl rfl (fun k hk => by match k, hk with | 0, _ => exact ⟨0, _, rfl, rfl, rfl, .inl rfl, .inl (Nat.le_of_ble_eq_true rfl)⟩ | 1, _ => exact ⟨0, _, rfl, rfl, rfl, .inl rfl, .inl (Nat.le_of_ble_eq_true rfl)⟩ | 2, _ => exact ⟨1, _, rfl, rfl, rfl, .inr rfl, .inl (Nat.le_of_ble_eq_true rfl)⟩) (Nat.le_of_ble_eq_true rfl)
  | 5, _ => exact go _ rfl rfl (fun k hk => by match k, hk with | 0, _ => exact ⟨1, _, rfl, rfl, rfl, .inr rfl, .inr rfl⟩) (Nat.le_of_ble_eq_true rfl)
  | 6, _ => exact go _ rfl rfl (fun k hk => by match k, hk with | 0, _ => exact ⟨1, _, rfl, rfl, rfl, .inr rfl, .inr rfl⟩) (Nat.le_of_ble_eq_true rfl)
end AF

end Go.Proofs.Yticjjdhaikbdaaa
