/- Names and data beside each other: found, taken out. Files have what was put behind them: plain. FsPlain: the walk. FsPlain: the acts. -/
import Derived.Test.YtibdiikcigokjaaGreatDoorKfFsE

namespace Go.Proofs.YtibdiikcigokjaaGreatDoor
open Go Go.RowKit
set_option linter.unusedVariables false
set_option linter.unusedSimpArgs false

def idxI (o : Option Nat) : Int := match o with
  | some i => (i : Int)
  | none => -1
end Go.Proofs.YtibdiikcigokjaaGreatDoor

namespace Go.Proofs.YtibdiikcigokjaaGreatDoor
open Go
set_option linter.unusedVariables false
set_option linter.unusedSimpArgs false

namespace AF
abbrev Tab := List (ByteArray × ByteArray)
def One (room steps : Nat) (files : List File) (now base : Names) (pend : List Op) : FS := ⟨room, steps, none, false, files, [⟨dN, now, base, pend⟩]⟩
def conts (files : List File) (now : Names) : List (ByteArray × List Nat) := now.map fun p => (p.1, (files.getD p.2 default).b)
def tabT (T : Tab) : List (ByteArray × List Nat) := T.map fun e => (e.1, sb e.2)
structure Rel (room steps : Nat) (files : List File) (now base : Names) (pend : List Op) (T : Tab) : Prop where
  wf : (One room steps files now base pend).WF
  perm : (conts files now).Perm (tabT T)
section
variable {room steps : Nat} {files : List File} {now base : Names} {pend : List Op} {T : Tab}
theorem one_dir (R : Rel room steps files now base pend T) : Dir.WF files.length steps ⟨dN, now, base, pend⟩ := R.wf.each _ (by simp [One])
theorem Rel.ok (R : Rel room steps files now base pend T) : Ok files.length now := (one_dir R).ok
theorem keys_eq : (conts files now).map (·.1) = now.map (·.1) := by unfold conts; rw [List.map_map]; rfl
theorem tab_keys (T : Tab) : (tabT T).map (·.1) = T.map (·.1) := by unfold tabT; rw [List.map_map]; rfl
theorem Rel.keys (R : Rel room steps files now base pend T) : (now.map (·.1)).Perm (T.map (·.1)) := by
  have := R.perm.map (·.1)
  rwa [keys_eq, tab_keys] at this
theorem Rel.nodup (R : Rel room steps files now base pend T) : (T.map (·.1)).Nodup := R.keys.nodup_iff.1 R.ok.up.nodup
theorem Rel.length (R : Rel room steps files now base pend T) : T.length = now.length := by have := R.keys.length_eq; simpa using this.symm
theorem Rel.none (R : Rel room steps files now base pend T) {k : ByteArray} (h : of now k = none) : ∀ e ∈ T, e.1 ≠ k := by
  intro e he hk
  have : k ∈ T.map (·.1) := List.mem_map.2 ⟨e, he, hk⟩
  obtain ⟨p, hp, hk2⟩ := List.mem_map.1 (R.keys.mem_iff.2 this)
  exact of_none h p hp hk2
theorem Rel.some (R : Rel room steps files now base pend T) {k : ByteArray} {x : Nat} (h : of now k = some x) : ∃ (i : Nat) (d : ByteArray), T[i]? = some (k, d) ∧ sb d = (files.getD x default).b := by
  have h1 : (k, (files.getD x default).b) ∈ conts files now := List.mem_map.2 ⟨(k, x), of_mem h, rfl⟩
  obtain ⟨e, he, hk⟩ := List.mem_map.1 (R.perm.mem_iff.1 h1)
  simp only [Prod.mk.injEq] at hk
  obtain ⟨i, hi⟩ := List.getElem?_of_mem he
  obtain ⟨ek, ed⟩ := e
  simp only at hk
  exact ⟨i, ed, by rw [hi, hk.1], hk.2⟩
end
end AF

end Go.Proofs.YtibdiikcigokjaaGreatDoor

namespace Go.Proofs.YtibdiikcigokjaaGreatDoor
open Go Go.RowKit
set_option linter.unusedVariables false
set_option linter.unusedSimpArgs false

end Go.Proofs.YtibdiikcigokjaaGreatDoor

namespace Go.Proofs.YtibdiikcigokjaaGreatDoor
open Go Go.RowKit
set_option linter.unusedVariables false
set_option linter.unusedSimpArgs false

end Go.Proofs.YtibdiikcigokjaaGreatDoor
