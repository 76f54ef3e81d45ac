/- The file system's own block: steps, fuses, what is told of it. -/
import Derived.Test.YticjjdhaikbdaaaFs1
import Derived.Test.YticjjdhaikbdaaaFs5b
namespace Go.Proofs.Yticjjdhaikbdaaa
open Go Go.RowKit
set_option linter.unusedVariables false
set_option linter.unusedSimpArgs false

def rawFS (b : Nat) (room used steps fuse : Int) (off : Bool) (md : Nat) : HProp :=
  pt b (.cells #[.int .i64 room, .int .i64 used, .int .i64 steps, .int .i64 fuse, .bool off, .map (some md)] 83 (0, 0))
theorem NN'_some' (a : Addr) (K : Addr → Prop) : NN' (some a) K = K a := rfl
/-- A cell of a block that is owned, read and set. -/
theorem LdC {h : Heap} {F : List HProp} {b i : Nat} {c : Array Value} {e : TypeId} {fr : Nat × Nat} {v : Value} {K : Value → Prop} (H : sat (pt b (.cells c e fr) :: F) h) (hv : c[i]? = some v) (hK : K v) : Ld h ((Addr.mk b 0 none).add i) K :=
  ⟨v, by rw [addr_add, Nat.zero_add, cellAt_of H.get]; exact hv, hK⟩
theorem StCC {h : Heap} {F : List HProp} {b i : Nat} {c c' : Array Value} {e : TypeId} {v : Value} {K : Heap → Prop} (H : sat (pt b (.cells c e (0, 0)) :: F) h) (hi : i < c.size) (hc : c.setIfInBounds i v = c') (hK : ∀ h', sat (pt b (.cells c' e (0, 0)) :: F) h' → K h') :
    StC h ((Addr.mk b 0 none).add i) v K := by
  rw [addr_add, Nat.zero_add]
  refine StC_sat H hi (fun hh => by have := hh.2; simp at this) fun h' H' => hK h' ?_
  rw [← hc]
  exact H'
theorem F57_spec {b md : Nat} {room used steps fuse : Int} {off : Bool} {F : List HProp} {h : Heap} (H : sat (rawFS b room used steps fuse off md :: F) h) (hf : -1 ≤ fuse ∧ fuse ≤ 9223372036854775807) (hs : 0 ≤ steps ∧ steps < 9223372036854775807) :
    CallsH Try.prog 57 [.pointer (some ⟨b, 0, none⟩)] h fun v h' =>
      (fuse = 0 ∧ v = .int .i64 60 ∧ sat (rawFS b room used steps fuse true md :: F) h') ∨
      (fuse ≠ 0 ∧ v = .int .i64 0 ∧ sat (rawFS b room used (steps + 1) (if fuse < 0 then -1 else fuse - 1) off md :: F) h') := by
  apply F57_ok
  unfold F57
  simp only [NN'_some', addr_add0]
  refine LdC (v := .int .i64 fuse) H rfl ?_
  rw [DI_int]
  by_cases h0 : fuse = 0
  · subst h0
    rw [show ((0 : Int) == 0) = true from rfl, cond_true]
    refine StCC (i := 4) (c' := #[.int .i64 room, .int .i64 used, .int .i64 steps, .int .i64 0, .bool true, .map (some md)]) H (by show 4 < 6; decide) rfl fun h1 H1 => ?_
    exact .inl ⟨rfl, by trivial, H1⟩
  · have hb : (fuse == 0) = false := by simpa using h0
    rw [hb, cond_false]
    refine LdC (v := .int .i64 fuse) H rfl ?_
    rw [DI_int]
    have w : (if (-1 : Int) > IntKind.wrap .i64 (fuse - 1) then (-1) else IntKind.wrap .i64 (fuse - 1)) = (if fuse < 0 then -1 else fuse - 1) := by
      rw [IntWalk.i64_in _ (by omega)]
      split <;> split <;> omega
    rw [w]
    refine StCC (c' := #[.int .i64 room, .int .i64 used, .int .i64 steps, .int .i64 (if fuse < 0 then -1 else fuse - 1), .bool off, .map (some md)]) H (by show 3 < 6; decide) rfl fun h1 H1 => ?_
    refine LdC (v := .int .i64 steps) H1 rfl ?_
    rw [DI_int, IntWalk.i64_in (steps + 1) (by omega)]
    refine StCC (c' := #[.int .i64 room, .int .i64 used, .int .i64 (steps + 1), .int .i64 (if fuse < 0 then -1 else fuse - 1), .bool off, .map (some md)]) H1 (by show 2 < 6; decide) rfl fun h2 H2 => ?_
    exact .inr ⟨h0, by trivial, H2⟩

end Go.Proofs.Yticjjdhaikbdaaa
