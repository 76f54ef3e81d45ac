/- Put over another file: wholly or not at all: plain. -/
import Derived.Test.YticjjdhaikbdaaaPlA
namespace Go.Proofs.Yticjjdhaikbdaaa
open Go
set_option linter.unusedVariables false
set_option linter.unusedSimpArgs false

namespace AF
open Frame (packN firstN)
theorem crash_one {room steps : Nat} {fu : Option Nat} {off : Bool} {files : List File} {now base : Names} {pend : List Op} (W : FS.WF ⟨room, steps, fu, off, files, [⟨dN, now, base, pend⟩]⟩) (ps : List Int) :
    ∃ (k : Nat) (fs : List File), k ≤ pend.length ∧ FS.crash ⟨room, steps, fu, off, files, [⟨dN, now, base, pend⟩]⟩ ps = ⟨room, steps, none, false, fs, [⟨dN, play base (pend.take k), play base (pend.take k), []⟩]⟩ ∧
      ∀ (x : Nat) (y : File), files[x]? = some y → ∃ z, fs[x]? = some z ∧ Cut y z :=
  ⟨(pick ps pend.length).1, (FS.crash ⟨room, steps, fu, off, files, [⟨dN, now, base, pend⟩]⟩ ps).files, pick_le _ _, rfl, fun x y hy => crashFiles_cut _ files _ W.files x y hy⟩
theorem cut_full {y z : File} (h : Cut y z) (hs : y.safe = y.b.length) : z.b = y.b := by
  obtain ⟨n, h1, h2, h3, _⟩ := h
  rw [h3]
  exact List.take_of_length_le (by omega)
theorem first_pack {x : List Nat} (h8 : B8 x) (hl : x.length ≤ 16777208) : firstN (packN x) = some x := by
  have := Frame.firstN_pack h8 hl []
  rwa [List.append_nil] at this
theorem get_gen {A : FS} {dir name : ByteArray} {x p : List Nat} (h2 : x.length + 8 = p.length) (h3 : firstN p = some x) (hr : A.read dir name = .ok p) : A.get dir name = .ok x := by
  unfold FS.get
  rw [hr]
  simp only [h3, if_pos h2]
/-- What is read of a file that is a frame. -/
theorem get_of {A : FS} {dir name : ByteArray} {x : List Nat} (h8 : B8 x) (hl : x.length ≤ 16777208) (hr : A.read dir name = .ok (packN x)) : A.get dir name = .ok x :=
  get_gen (by rw [Frame.packN_length]; omega) (first_pack h8 hl) hr
def S6 (e : List Nat) (fu : Option Nat) : FS := ⟨1048576, 6, fu, false, [⟨e, e.length⟩], [⟨dN, [(aN, 0)], [(aN, 0)], []⟩]⟩
/-- The state behind the second put, by how many steps the fuse let through. -/
def W11 (e n : List Nat) : Nat → FS
  | 0 => ⟨1048576, 6, some 0, true, [⟨e, e.length⟩], [⟨dN, [(aN, 0)], [(aN, 0)], []⟩]⟩
  | 1 => ⟨1048576, 7, some 0, true, [⟨e, e.length⟩, ⟨[], 0⟩], [⟨dN, [(aN, 0), (taN, 1)], [(aN, 0)], [.create taN 1]⟩]⟩
  | 2 => ⟨1048576, 8, some 0, true, [⟨e, e.length⟩, ⟨n, 0⟩], [⟨dN, [(aN, 0), (taN, 1)], [(aN, 0)], [.create taN 1]⟩]⟩
  | 3 => ⟨1048576, 9, some 0, true, [⟨e, e.length⟩, ⟨n, n.length⟩], [⟨dN, [(aN, 0), (taN, 1)], [(aN, 0)], [.create taN 1]⟩]⟩
  | 4 => ⟨1048576, 10, some 0, true, [⟨e, e.length⟩, ⟨n, n.length⟩], [⟨dN, [(aN, 1)], [(aN, 0)], [.create taN 1, .rename taN aN]⟩]⟩
  | m + 5 => ⟨1048576, 11, some m, false, [⟨e, e.length⟩, ⟨n, n.length⟩], [⟨dN, [(aN, 1)], [(aN, 1)], []⟩]⟩
theorem second {e n : List Nat} (hl : e.length + n.length ≤ 5000) {m : Nat} (hm : m < 8) : ∃ x, seqF (rawSteps dN aN n) (S6 e (some m)) = (W11 e n m, x) ∧ (x = 0 ↔ 5 ≤ m) := by
  unfold rawSteps
  rw [tmp_a]
  have ap : ∀ k, FS.append ⟨1048576, 7, some (k + 1), false, [⟨e, e.length⟩, ⟨[], 0⟩], [⟨dN, [(aN, 0), (taN, 1)], [(aN, 0)], [.create taN 1]⟩]⟩ dN taN n = (⟨1048576, 8, some k, false, [⟨e, e.length⟩, ⟨n, 0⟩], [⟨dN, [(aN, 0), (taN, 1)], [(aN, 0)], [.create taN 1]⟩]⟩, 0) := fun k => by
    rw [append_do (i := 0) (x := 1) rfl (by show 0 + n.length ≤ 16777216; omega) (by show e.length + (0 + 0) + n.length ≤ 1048576; omega)]
    rfl
  have ap0 : FS.append ⟨1048576, 7, some 0, false, [⟨e, e.length⟩, ⟨[], 0⟩], [⟨dN, [(aN, 0), (taN, 1)], [(aN, 0)], [.create taN 1]⟩]⟩ dN taN n = (⟨1048576, 7, some 0, true, [⟨e, e.length⟩, ⟨[], 0⟩], [⟨dN, [(aN, 0), (taN, 1)], [(aN, 0)], [.create taN 1]⟩]⟩, 60) := by
    rw [append_do (i := 0) (x := 1) rfl (by show 0 + n.length ≤ 16777216; omega) (by show e.length + (0 + 0) + n.length ≤ 1048576; omega)]
    rfl
  have e1 : ∀ k, (S6 e (some (k + 1))).create dN taN = (⟨1048576, 7, some k, false, [⟨e, e.length⟩, ⟨[], 0⟩], [⟨dN, [(aN, 0), (taN, 1)], [(aN, 0)], [.create taN 1]⟩]⟩, 0) := fun k => rfl
  have e10 : (S6 e (some 0)).create dN taN = (⟨1048576, 6, some 0, true, [⟨e, e.length⟩], [⟨dN, [(aN, 0)], [(aN, 0)], []⟩]⟩, 60) := rfl
  have e3 : ∀ k, FS.sync ⟨1048576, 8, some (k + 1), false, [⟨e, e.length⟩, ⟨n, 0⟩], [⟨dN, [(aN, 0), (taN, 1)], [(aN, 0)], [.create taN 1]⟩]⟩ dN taN = (⟨1048576, 9, some k, false, [⟨e, e.length⟩, ⟨n, n.length⟩], [⟨dN, [(aN, 0), (taN, 1)], [(aN, 0)], [.create taN 1]⟩]⟩, 0) := fun k => rfl
  have e30 : FS.sync ⟨1048576, 8, some 0, false, [⟨e, e.length⟩, ⟨n, 0⟩], [⟨dN, [(aN, 0), (taN, 1)], [(aN, 0)], [.create taN 1]⟩]⟩ dN taN = (⟨1048576, 8, some 0, true, [⟨e, e.length⟩, ⟨n, 0⟩], [⟨dN, [(aN, 0), (taN, 1)], [(aN, 0)], [.create taN 1]⟩]⟩, 60) := rfl
  have e4 : ∀ k, FS.rename ⟨1048576, 9, some (k + 1), false, [⟨e, e.length⟩, ⟨n, n.length⟩], [⟨dN, [(aN, 0), (taN, 1)], [(aN, 0)], [.create taN 1]⟩]⟩ dN taN aN = (⟨1048576, 10, some k, false, [⟨e, e.length⟩, ⟨n, n.length⟩], [⟨dN, [(aN, 1)], [(aN, 0)], [.create taN 1, .rename taN aN]⟩]⟩, 0) := fun k => rfl
  have e40 : FS.rename ⟨1048576, 9, some 0, false, [⟨e, e.length⟩, ⟨n, n.length⟩], [⟨dN, [(aN, 0), (taN, 1)], [(aN, 0)], [.create taN 1]⟩]⟩ dN taN aN = (⟨1048576, 9, some 0, true, [⟨e, e.length⟩, ⟨n, n.length⟩], [⟨dN, [(aN, 0), (taN, 1)], [(aN, 0)], [.create taN 1]⟩]⟩, 60) := rfl
  have e5 : ∀ k, FS.syncDir ⟨1048576, 10, some (k + 1), false, [⟨e, e.length⟩, ⟨n, n.length⟩], [⟨dN, [(aN, 1)], [(aN, 0)], [.create taN 1, .rename taN aN]⟩]⟩ dN = (⟨1048576, 11, some k, false, [⟨e, e.length⟩, ⟨n, n.length⟩], [⟨dN, [(aN, 1)], [(aN, 1)], []⟩]⟩, 0) := fun k => rfl
  have e50 : FS.syncDir ⟨1048576, 10, some 0, false, [⟨e, e.length⟩, ⟨n, n.length⟩], [⟨dN, [(aN, 1)], [(aN, 0)], [.create taN 1, .rename taN aN]⟩]⟩ dN = (⟨1048576, 10, some 0, true, [⟨e, e.length⟩, ⟨n, n.length⟩], [⟨dN, [(aN, 1)], [(aN, 0)], [.create taN 1, .rename taN aN]⟩]⟩, 60) := rfl
  have n60 : ¬ (60 : Nat) = 0 := by decide
  match m, hm with
  | 0, _ => exact ⟨60, by simp only [seqF, e10, n60, if_false]; rfl, by decide⟩
  | 1, _ => exact ⟨60, by simp only [seqF, e1 0, ap0, if_true, n60, if_false]; rfl, by decide⟩
  | 2, _ => exact ⟨60, by simp only [seqF, e1 1, ap 0, e30, if_true, n60, if_false]; rfl, by decide⟩
  | 3, _ => exact ⟨60, by simp only [seqF, e1 2, ap 1, e3 0, e40, if_true, n60, if_false]; rfl, by decide⟩
  | 4, _ => exact ⟨60, by simp only [seqF, e1 3, ap 2, e3 1, e4 0, e50, if_true, n60, if_false]; rfl, by decide⟩
  | 5, _ => exact ⟨0, by simp only [seqF, e1 4, ap 3, e3 2, e4 1, e5 0, if_true]; rfl, by decide⟩
  | 6, _ => exact ⟨0, by simp only [seqF, e1 5, ap 4, e3 3, e4 2, e5 1, if_true]; rfl, by decide⟩
  | 7, _ => exact ⟨0, by simp only [seqF, e1 6, ap 5, e3 4, e4 3, e5 2, if_true]; rfl, by decide⟩
theorem put_second {e n : List Nat} (hl : e.length + n.length ≤ 4000) {m : Nat} (hm : m < 8) : ∃ x, (S6 (packN e) (some m)).put dN aN n = (W11 (packN e) (packN n) m, x) ∧ (x = 0 ↔ 5 ≤ m) := by
  unfold FS.put FS.raw
  rw [if_neg (by omega), if_neg (by decide)]
  have e1 : (S6 (packN e) (some m)).list dN = .ok [aN] := rfl
  rw [e1]
  have e2 : rawAll dN aN (packN n) [aN] = rawSteps dN aN (packN n) := rfl
  simp only [e2]
  exact second (by rw [Frame.packN_length, Frame.packN_length]; omega) hm
/-- A directory with one good name and perhaps an unfinished one is made clean. -/
theorem prep_one (room steps x : Nat) (fs : List File) : FS.prep ⟨room, steps, none, false, fs, [⟨dN, [(aN, x)], [(aN, x)], []⟩]⟩ dN = (⟨room, steps, none, false, fs, [⟨dN, [(aN, x)], [(aN, x)], []⟩]⟩, .ok [aN]) := rfl
theorem prep_two (room steps x y : Nat) (fs : List File) : FS.prep ⟨room, steps, none, false, fs, [⟨dN, [(aN, x), (taN, y)], [(aN, x), (taN, y)], []⟩]⟩ dN = (⟨room, steps + 2, none, false, fs, [⟨dN, [(aN, x)], [(aN, x)], []⟩]⟩, .ok [aN]) := rfl
theorem read_one (room steps x : Nat) (fs : List File) (l : Names) (z : File) (hx : fs[x]? = some z) (hl : of l aN = some x) : FS.read ⟨room, steps, none, false, fs, [⟨dN, l, l, []⟩]⟩ dN aN = .ok z.b := by
  unfold FS.read FS.entry
  have hr : FS.ready ⟨room, steps, none, false, fs, [⟨dN, l, l, []⟩]⟩ dN [aN] = .ok 0 := rfl
  rw [hr]
  simp only [show (FS.D ⟨room, steps, none, false, fs, [⟨dN, l, l, []⟩]⟩ 0).now = l from rfl, hl]
  exact congrArg (fun f : File => Except.ok f.b) (X_of (f := ⟨room, steps, none, false, fs, [⟨dN, l, l, []⟩]⟩) hx)
theorem whole {e n : List Nat} (he : B8 e) (hn : B8 n) (hl : e.length + n.length ≤ 4000) {m : Nat} (hm : m < 8) (W : (W11 (packN e) (packN n) m).WF) (ps : List Int) :
    ∃ (x : List Nat) (B : FS), ((W11 (packN e) (packN n) m).crash ps).get dN aN = .ok x ∧ (x = e ∨ x = n) ∧ (5 ≤ m → x = n) ∧ ((W11 (packN e) (packN n) m).crash ps).prep dN = (B, .ok [aN]) := by
  have go : ∀ (room steps : Nat) (fu : Option Nat) (off : Bool) (files : List File) (now base : Names) (pend : List Op) (W : FS.WF ⟨room, steps, fu, off, files, [⟨dN, now, base, pend⟩]⟩)
      (hp : ∀ k, k ≤ pend.length → ∃ (x : Nat) (u : List Nat), (play base (pend.take k) = [(aN, x)] ∨ ∃ y, play base (pend.take k) = [(aN, x), (taN, y)]) ∧ files[x]? = some ⟨packN u, (packN u).length⟩ ∧ B8 u ∧ u.length ≤ 4000 ∧ (u = e ∨ u = n) ∧ (5 ≤ m → u = n)),
      ∃ (x : List Nat) (B : FS), (FS.crash ⟨room, steps, fu, off, files, [⟨dN, now, base, pend⟩]⟩ ps).get dN aN = .ok x ∧ (x = e ∨ x = n) ∧ (5 ≤ m → x = n) ∧ (FS.crash ⟨room, steps, fu, off, files, [⟨dN, now, base, pend⟩]⟩ ps).prep dN = (B, .ok [aN]) := by
    intro room steps fu off files now base pend W hp
    obtain ⟨k, fs, hk, hc, hcut⟩ := crash_one W ps
    obtain ⟨x, u, hplay, hx, hu8, hul, hu, hu5⟩ := hp k hk
    obtain ⟨z, hz, hzc⟩ := hcut x _ hx
    have hzb : z.b = packN u := cut_full hzc rfl
    rw [hc]
    rcases hplay with hpl | ⟨y, hpl⟩
    · rw [hpl]
      refine ⟨u, _, get_of hu8 (by omega) ?_, hu, hu5, prep_one room steps x fs⟩
      rw [read_one room steps x fs _ z hz rfl, hzb]
    · rw [hpl]
      refine ⟨u, _, get_of hu8 (by omega) ?_, hu, hu5, prep_two room steps x y fs⟩
      rw [read_one room steps x fs _ z hz rfl, hzb]
  match m, hm with
  | 0, _ => exact go _ _ _ _ _ _ _ _ W fun k hk => by match k, hk with | 0, _ => exact ⟨0, e, .inl rfl, rfl, he, by omega, .inl rfl, fun h => by omega⟩
  | 1, _ => exact go _ _ _ _ _ _ _ _ W fun k hk => by match k, hk with | 0, _ => exact ⟨0, e, .inl rfl, rfl, he, by omega, .inl rfl, fun h => by omega⟩ | 1, _ => exact ⟨0, e, .inr ⟨1, rfl⟩, rfl, he, by omega, .inl rfl, fun h => by omega⟩
  | 2, _ => exact go _ _ _ _ _ _ _ _ W fun k hk => by match k, hk with | 0, _ => exact ⟨0, e, .inl rfl, rfl, he, by omega, .inl rfl, fun h => by omega⟩ | 1, _ => exact ⟨0, e, .inr ⟨1, rfl⟩, rfl, he, by omega, .inl rfl, fun h => by omega⟩
  | 3, _ => exact go _ _ _ _ _ _ _ _ W fun k hk => by match k, hk with | 0, _ => exact ⟨0, e, .inl rfl, rfl, he, by omega, .inl rfl, fun h => by omega⟩ | 1, _ => exact ⟨0, e, .inr ⟨1, rfl⟩, rfl, he, by omega, .inl rfl, fun h => by omega⟩
  | 4, _ => exact go _ _ _ _ _ _ _ _ W fun k hk => by match k, hk with | 0, _ => exact ⟨0, e, .inl rfl, rfl, he, by omega, .inl rfl, fun h => by omega⟩ | 1, _ => exact ⟨0, e, .inr ⟨1, rfl⟩, rfl, he, by omega, .inl rfl, fun h => by omega⟩ | 2, _ => exact ⟨1, n, .inl rfl, rfl, hn, by omega, .inr rfl, fun h => by omega⟩
  | 5, _ => exact go _ _ _ _ _ _ _ _ W fun k hk => by match k, hk with | 0, _ => exact ⟨1, n, .inl rfl, rfl, hn, by omega, .inr rfl, fun h => rfl⟩
  | 6, _ => exact go _ _ _ _ _ _ _ _ W fun k hk => by match k, hk with | 0, _ => exact ⟨1, n, .inl rfl, rfl, hn, by omega, .inr rfl, fun h => rfl⟩
  | 7, _ => exact go _ _ _ _ _ _ _ _ W fun k hk => by match k, hk with | 0, _ => exact ⟨1, n, .inl rfl, rfl, hn, by omega, .inr rfl, fun h => rfl⟩
end AF

end Go.Proofs.Yticjjdhaikbdaaa
