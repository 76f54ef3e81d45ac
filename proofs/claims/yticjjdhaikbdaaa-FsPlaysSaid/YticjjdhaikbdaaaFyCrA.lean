/- The sum of bytes as plain arithmetic: bits shifted through the polynomial; linear, and no turned word goes unseen. Frames as plain lists of bytes: a frame is told back, what is cut off or turned is none. Sums and frames, in the program of seat r2. -/
import Derived.Test.YticjjdhaikbdaaaFyFwB
import Derived.Test.YticjjdhaikbdaaaFyTb
import Derived.Test.YticjjdhaikbdaaaFyTc

namespace Go.Proofs.Yticjjdhaikbdaaa
namespace Crc
set_option linter.unusedVariables false
set_option linter.unusedSimpArgs false

def poly : Nat := 2197175160
def T (c : Nat) : Nat := (c / 2) ^^^ (if c % 2 = 1 then poly else 0)
def Tn : Nat → Nat → Nat
  | 0, c => c
  | n + 1, c => Tn n (T c)
def Run (c : Nat) (bs : List Nat) : Nat := bs.foldl (fun c b => Tn 8 (c ^^^ b)) c
def More (sum : Nat) (bs : List Nat) : Nat := 4294967295 ^^^ Run (4294967295 ^^^ sum) bs

/-- Bytes of one number, the lowest first. -/
def bytes : Nat → Nat → List Nat
  | 0, _ => []
  | n + 1, w => w % 256 :: bytes n (w / 256)
end Crc
end Go.Proofs.Yticjjdhaikbdaaa

namespace Go.Proofs.Yticjjdhaikbdaaa
theorem B8.append {a b : List Nat} (ha : B8 a) (hb : B8 b) : B8 (a ++ b) := fun n h => (List.mem_append.1 h).elim (ha n) (hb n)
theorem B8.take {a : List Nat} (ha : B8 a) (k : Nat) : B8 (a.take k) := fun n h => ha n (List.mem_of_mem_take h)
theorem B8.drop {a : List Nat} (ha : B8 a) (k : Nat) : B8 (a.drop k) := fun n h => ha n (List.mem_of_mem_drop h)
theorem B8.getD {l : List Nat} (h : B8 l) (i : Nat) : l.getD i 0 < 256 := by
  rw [List.getD_eq_getElem?_getD]
  cases he : l[i]? with
  | none => decide
  | some x => exact h x (List.mem_of_getElem? he)
namespace Frame
open Crc (Run More)
set_option linter.unusedVariables false
set_option linter.unusedSimpArgs false

def be4 (n : Nat) : List Nat := [n / 16777216 % 256, n / 65536 % 256, n / 256 % 256, n % 256]
def val4 (l : List Nat) : Nat := l.getD 0 0 * 16777216 + l.getD 1 0 * 65536 + l.getD 2 0 * 256 + l.getD 3 0
theorem be4_B8 (n : Nat) : B8 (be4 n) := by
  intro x hx
  simp only [be4, List.mem_cons, List.mem_nil_iff, or_false] at hx
  rcases hx with rfl | rfl | rfl | rfl <;> exact Nat.mod_lt _ (by decide)
theorem val4_lt {l : List Nat} (h : B8 l) : val4 l < 4294967296 := by
  have := h.getD 0; have := h.getD 1; have := h.getD 2; have := h.getD 3
  unfold val4
  omega
theorem val4_take {l : List Nat} {k : Nat} (hk : 4 ≤ k) : val4 (l.take k) = val4 l := by
  unfold val4
  simp only [List.getD_eq_getElem?_getD, List.getElem?_take]
  rw [if_pos (by omega), if_pos (by omega), if_pos (by omega), if_pos (by omega)]

def packN (x : List Nat) : List Nat := be4 x.length ++ be4 (More 0 (be4 x.length ++ x)) ++ x
theorem packN_length (x : List Nat) : (packN x).length = 8 + x.length := by simp [packN, be4]; omega
theorem packN_B8 {x : List Nat} (h : B8 x) : B8 (packN x) := ((be4_B8 _).append (be4_B8 _)).append h
def firstN (bs : List Nat) : Option (List Nat) :=
  if bs.length < 8 then none
  else if val4 bs > 16777208 then none
  else if val4 bs > bs.length - 8 then none
  else if val4 (bs.drop 4) = More (More 0 (bs.take 4)) ((bs.drop 8).take (val4 bs)) then some ((bs.drop 8).take (val4 bs)) else none
/-- The document's answer for the frame at the beginning. -/
def refAt (bs : List Nat) : List Nat × Bool :=
  if bs.length < 8 then ([], false)
  else if val4 bs > bs.length - 8 then ([], false)
  else ((bs.drop 8).take (val4 bs), decide (val4 bs ≤ 16777208) && decide (packN ((bs.drop 8).take (val4 bs)) = bs.take (8 + val4 bs)))
def scanF : Nat → List Nat → List (List Nat)
  | 0, _ => []
  | k + 1, bs => match firstN bs with
    | none => []
    | some x => x :: scanF k (bs.drop (8 + x.length))
def scanN (bs : List Nat) : List (List Nat) := scanF (bs.length + 1) bs
def reach (l : List (List Nat)) : Nat := (l.map fun x => 8 + x.length).sum
end Frame
end Go.Proofs.Yticjjdhaikbdaaa

namespace Go.Proofs.Yticjjdhaikbdaaa
open Go Go.RowKit
set_option linter.unusedVariables false
set_option linter.unusedSimpArgs false
open Crc (T Tn Run More)

theorem LoopH.mono {S : Type} {F G : (S → Heap → Prop) → S → Heap → Prop} {s : S} {h : Heap} (H : LoopH F s h) (hfg : ∀ again s h, F again s h → G again s h) : LoopH G s h :=
  let ⟨I, μ, h0, hs⟩ := H
  ⟨I, μ, h0, fun s h hi => hfg _ _ _ (hs s h hi)⟩

end Go.Proofs.Yticjjdhaikbdaaa

namespace Go.Proofs.Yticjjdhaikbdaaa
open Go Go.RowKit
set_option linter.unusedVariables false
set_option linter.unusedSimpArgs false
open Crc (Run More)
open Frame (be4 val4 packN firstN refAt scanN reach be4_B8 val4_lt val4_take packN_length packN_B8)

theorem t9 : Try.prog.underlying 9 = some .string := by kernel_rfl
theorem t5 : Try.prog.underlying 5 = some (.int .u8) := by kernel_rfl
end Go.Proofs.Yticjjdhaikbdaaa
