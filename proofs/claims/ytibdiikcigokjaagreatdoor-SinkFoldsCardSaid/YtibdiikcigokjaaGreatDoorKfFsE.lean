/- Calls whose outcome is known; the chapter's example. A rename over another file: wholly or not at all; what is safe stays. FsRenames, FsSafe: the walks. Slices of whole numbers that came in. No file system: what it answers. Structs and slices of structs that came in, read: the acts of a file system. Slices of acts that came in; how heavy they are. -/
import Derived.Test.YtibdiikcigokjaaGreatDoorKfFsD
import Derived.Test.YtibdiikcigokjaaGreatDoorKfFsB
import Derived.Deep.Slices
import Derived.ChangeSlices
import Derived.ChangeArms
import Derived.WideShapes
import Derived.ProofKit
import Derived.OpenShut
import Derived.ChangeOld

namespace Go.Proofs.YtibdiikcigokjaaGreatDoor
open Go Go.RowKit Go.MapKept
set_option linter.unusedVariables false
set_option linter.unusedSimpArgs false

abbrev dN : ByteArray := ⟨#[100]⟩
section
variable {b : Nat} {A A' : AF.FS} {e : Nat} {F : List HProp} {h : Heap} {dir name : ByteArray}
abbrev Done (b : Nat) (A' : AF.FS) (e : Nat) (F : List HProp) : Value → Heap → Prop := fun v h' => v = .int .i64 (e : Int) ∧ A'.WF ∧ sat (fsP b A' :: F) h'
theorem c16 (he : A.mkdir dir = (A', e)) (W : A.WF) (hs : A.steps < 1099511627776) (hd : dir.size < 4611686018427387904) (H : sat (fsP b A :: F) h) : CallsH Tryz.prog 78 [ptrV b, .string dir] h (Done b A' e F) := by
  have W2 := W.mkdir dir
  refine (F78_spec W hs hd H).mono ?_
  rintro v h' ⟨rfl, H2⟩
  rw [he] at W2 H2 ⊢
  exact ⟨rfl, W2, H2⟩
theorem c17 (he : A.create dir name = (A', e)) (W : A.WF) (hs : A.steps < 1099511627776) (hd : dir.size < 4611686018427387904) (hn : name.size < 4611686018427387904) (H : sat (fsP b A :: F) h) : CallsH Tryz.prog 79 [ptrV b, .string dir, .string name] h (Done b A' e F) := by
  have W2 := W.create dir name
  refine (F79_spec W hs hd hn H).mono ?_
  rintro v h' ⟨rfl, H2⟩
  rw [he] at W2 H2 ⊢
  exact ⟨rfl, W2, H2⟩
theorem c18 {ba : Option Addr} {bl bc : Nat} {bs : List Nat} (he : A.append dir name bs = (A', e)) (W : A.WF) (hs : A.steps < 1099511627776) (hd : dir.size < 4611686018427387904) (hn : name.size < 4611686018427387904)
    (hr : ∀ h', sat F h' → RdC h' ba (bs.map nv)) (h8 : B8 bs) (hl : bs.length = bl) (hlb : bl < 4611686018427387904) (H : sat (fsP b A :: F) h) : CallsH Tryz.prog 80 [ptrV b, .string dir, .string name, .slice ba bl bc] h (Done b A' e F) := by
  have W2 := W.append dir name h8
  refine (F80_spec W hs hd hn hr hl hlb H).mono ?_
  rintro v h' ⟨rfl, H2⟩
  rw [he] at W2 H2 ⊢
  exact ⟨rfl, W2, H2⟩
theorem c19 (he : A.sync dir name = (A', e)) (W : A.WF) (hs : A.steps < 1099511627776) (hd : dir.size < 4611686018427387904) (hn : name.size < 4611686018427387904) (H : sat (fsP b A :: F) h) : CallsH Tryz.prog 81 [ptrV b, .string dir, .string name] h (Done b A' e F) := by
  have W2 := W.sync dir name
  refine (F81_spec W hs hd hn H).mono ?_
  rintro v h' ⟨rfl, H2⟩
  rw [he] at W2 H2 ⊢
  exact ⟨rfl, W2, H2⟩
theorem c20 (he : A.syncDir dir = (A', e)) (W : A.WF) (hs : A.steps < 1099511627776) (hd : dir.size < 4611686018427387904) (H : sat (fsP b A :: F) h) : CallsH Tryz.prog 82 [ptrV b, .string dir] h (Done b A' e F) := by
  have W2 := W.syncDir dir
  refine (F82_spec W hs hd H).mono ?_
  rintro v h' ⟨rfl, H2⟩
  rw [he] at W2 H2 ⊢
  exact ⟨rfl, W2, H2⟩
theorem c21 {n : Int} (he : A.setFuse n = (A', e)) (W : A.WF) (hn : n ≤ 9223372036854775807) (H : sat (fsP b A :: F) h) : CallsH Tryz.prog 18 [ptrV b, .int .i64 n] h (Done b A' e F) := by
  have W2 := W.setFuse hn
  refine (F18_spec H).mono ?_
  rintro v h' ⟨rfl, H2⟩
  rw [he] at W2 H2 ⊢
  exact ⟨rfl, W2, H2⟩
theorem c22 {k : ByteArray} (he : A.rename dir name k = (A', e)) (W : A.WF) (hs : A.steps < 1099511627776) (hd : dir.size < 4611686018427387904) (hn : name.size < 4611686018427387904) (hk : k.size < 4611686018427387904) (H : sat (fsP b A :: F) h) : CallsH Tryz.prog 83 [ptrV b, .string dir, .string name, .string k] h (Done b A' e F) := by
  have W2 := W.rename dir name k
  refine (F83_spec W hs hd hn hk H).mono ?_
  rintro v h' ⟨rfl, H2⟩
  rw [he] at W2 H2 ⊢
  exact ⟨rfl, W2, H2⟩
/-- Bytes of a text, appended. -/
theorem cText {s : ByteArray} {K : Value → Heap → Prop} (H : sat F h) (hz : s.size ≤ maxLen) (hK : ∀ a c h', sat (ownS 5 1 a s.size c ((sb s).map nv) :: F) h' → K (.slice a s.size c) h') : RunH Tryz.prog (Go.convert 9 85 (.string s)) h K :=
  bytesOfB (by kernel_rfl) u31 (by kernel_rfl) hz H fun b c h' H' => hK _ c h' H'
end

end Go.Proofs.YtibdiikcigokjaaGreatDoor

namespace Go.Proofs.YtibdiikcigokjaaGreatDoor
open Go Go.RowKit Go.MapKept
set_option linter.unusedVariables false
set_option linter.unusedSimpArgs false

namespace AF
end AF

end Go.Proofs.YtibdiikcigokjaaGreatDoor

namespace Go.Proofs.YtibdiikcigokjaaGreatDoor
open Go Go.RowKit Go.MapKept
set_option linter.unusedVariables false
set_option linter.unusedSimpArgs false

/-! ### what is safe stays -/
namespace AF
end AF
theorem right_size {s : ByteArray} (h : AF.right s = true) : s.size ≤ 32 := by
  unfold AF.right at h
  simp only [Bool.and_eq_true, decide_eq_true_eq] at h
  exact h.1.2
end Go.Proofs.YtibdiikcigokjaaGreatDoor

namespace Go.Proofs.YtibdiikcigokjaaGreatDoor
open Go Go.RowKit
set_option linter.unusedVariables false

end Go.Proofs.YtibdiikcigokjaaGreatDoor

namespace Go.Proofs.YtibdiikcigokjaaGreatDoor
open Go Go.RowKit
set_option linter.unusedVariables false
set_option linter.unusedSimpArgs false

section
variable {h : Heap} {F : List HProp} {dir name k : ByteArray} {a : Option Addr} {l c : Nat} {n t : Int}
end
end Go.Proofs.YtibdiikcigokjaaGreatDoor

namespace Go.Proofs.YtibdiikcigokjaaGreatDoor
open Go Go.RowKit Go.ChangeShapes Go.WideShapes Go.ChangeAt
set_option linter.unusedVariables false
set_option linter.unusedSimpArgs false

section
variable {H : Type} {enc : TypeId × Value → H} {P : Program} {w : World} {base : Nat} {spare : Nat → Bool} {held : Bool}
/-- An act, as the cells have it. -/
structure ActV where
  k : Int
  dir : ByteArray
  name : ByteArray
  b : ByteArray
  n : Int
  turn : Int
  pa : Option Addr
  pl : Nat
  pc : Nat
def ActV.cells (x : ActV) : List Value := [.int .i64 x.k, .string x.dir, .string x.name, .string x.b, .int .i64 x.n, .int .u8 x.turn, .slice x.pa x.pl x.pc]
/-- What is known of one that came in. -/
structure ActOk (h : Heap) (x : ActV) : Prop where
  k : -9223372036854775808 ≤ x.k ∧ x.k ≤ 9223372036854775807
  n : -9223372036854775808 ≤ x.n ∧ x.n ≤ 9223372036854775807
  turn : 0 ≤ x.turn ∧ x.turn < 256
  dir : x.dir.size ≤ maxLen
  name : x.name.size ≤ maxLen
  b : x.b.size ≤ maxLen
  picks : ∃ ps : List Int, RdC h x.pa (ps.map iv) ∧ ps.length = x.pl ∧ x.pl ≤ x.pc ∧ x.pc ≤ maxLen
end

end Go.Proofs.YtibdiikcigokjaaGreatDoor

namespace Go.Proofs.YtibdiikcigokjaaGreatDoor
open Go Go.RowKit Go.ChangeShapes Go.WideShapes Go.ChangeAt
set_option linter.unusedVariables false
set_option linter.unusedSimpArgs false

/-- Acts that can be read from address a on. -/
def ActsIn (h : Heap) (a : Option Addr) (acts : List ActV) : Prop :=
  ∀ (i : Nat) (x : ActV), acts[i]? = some x → ActOk h x ∧ ∃ b, a = some b ∧ ∀ (j : Nat) (v : Value), x.cells[j]? = some v → cellAt h (b.add (i * 7 + j)) = some v
theorem ActsIn.at {h : Heap} {a : Option Addr} {acts : List ActV} {l i : Nat} {x : ActV} {K : Addr → Prop} (H : ActsIn h a acts) (hl : acts.length = l) (hi : acts[i]? = some x)
    (hK : ∀ b, a = some b → (∀ (j : Nat) (v : Value), x.cells[j]? = some v → cellAt h ((b.add (i * 7)).add j) = some v) → K (b.add (i * 7))) : IdxA a l (i : Int) 7 K := by
  obtain ⟨_, b, hb, hc⟩ := H i x hi
  have := (List.getElem?_eq_some_iff.1 hi).1
  refine ⟨b, hb, by omega, by omega, ?_⟩
  rw [Int.toNat_natCast]
  exact hK b hb fun j v hj => by rw [addr_add_add]; exact hc j v hj
theorem ActsIn.old {h h' : Heap} {F : List HProp} {a : Option Addr} {acts : List ActV} (H : ActsIn h a acts) (hs : sat (old h :: F) h') : ActsIn h' a acts := by
  intro i x hi
  obtain ⟨h1, b, hb, hc⟩ := H i x hi
  obtain ⟨ps, hr, h2, h3⟩ := h1.picks
  exact ⟨⟨h1.k, h1.n, h1.turn, h1.dir, h1.name, h1.b, ps, hr.old hs, h2, h3⟩, b, hb, fun j v hj => hs.oldCell (hc j v hj)⟩
end Go.Proofs.YtibdiikcigokjaaGreatDoor
