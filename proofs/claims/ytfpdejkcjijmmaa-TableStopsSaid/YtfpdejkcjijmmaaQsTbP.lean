/- The law TableInts (seat T). -/
import Derived.Test.YtfpdejkcjijmmaaQsTbM
import Derived.Test.YtfpdejkcjijmmaaQsTbAU
namespace Go.Proofs.Ytfpdejkcjijmmaa
open Go Go.RowKit
open Tb (T get set del Up Has)
open AF (ltB strLt_irrefl strLt_trans strLt_total)
set_option linter.unusedVariables false
set_option linter.unusedSimpArgs false

/-- Keys of one byte below nine. -/
def One (k : ByteArray) : Prop := ∃ n : Nat, n < 9 ∧ k = ofN [n]
abbrev Ones {V : Type} (A : T V) : Prop := ∀ p ∈ A, One p.1
theorem Ones.set {V : Type} {A : T V} (H : Ones A) {n : Nat} (hn : n < 9) (v : V) : Ones (set (ofN [n]) v A) := fun p hp => by
  rcases Tb.mem_set hp with rfl | hp
  · exact ⟨n, hn, rfl⟩
  · exact H p hp
theorem inc_len : ∀ (l : List Nat) (k N : Nat), l.Pairwise (· < ·) → (∀ x ∈ l, k ≤ x ∧ x < N) → l.length ≤ N - k
  | [], _, _, _, _ => Nat.zero_le _
  | x :: l, k, N, hp, hx => by
    rw [List.pairwise_cons] at hp
    have h1 := hx x (by simp)
    have := inc_len l (x + 1) N hp.2 fun y hy => ⟨hp.1 y hy, (hx y (by simp [hy])).2⟩
    rw [List.length_cons]
    omega
def fst8 (k : ByteArray) : Nat := (k.data.toList.headD 0).toNat
theorem fst8_of {n : Nat} (hn : n < 9) : fst8 (ofN [n]) = n := by
  have : ∀ n, n < 9 → fst8 (ofN [n]) = n := by decide
  exact this n hn
theorem one_lt {n m : Nat} (hn : n < 9) (hm : m < 9) (h : ltB (ofN [n]) (ofN [m]) = true) : n < m := by
  have : ∀ n, n < 9 → ∀ m, m < 9 → ltB (ofN [n]) (ofN [m]) = true → n < m := by decide
  exact this n hn m hm h
theorem Ones.len {V : Type} {A : T V} (U : Up A) (H : Ones A) : A.length ≤ 9 := by
  have := inc_len (A.map fun p => fst8 p.1) 0 9 ?_ ?_
  · simpa using this
  · rw [List.pairwise_map]
    refine (List.Pairwise.and_mem.1 U).imp ?_
    rintro p q ⟨hp, hq, hlt⟩
    obtain ⟨n, hn, e1⟩ := H p hp
    obtain ⟨m, hm, e2⟩ := H q hq
    rw [e1, e2] at hlt ⊢
    rw [fst8_of hn, fst8_of hm]
    exact one_lt hn hm hlt
  · intro x hx
    obtain ⟨p, hp, rfl⟩ := List.mem_map.1 hx
    obtain ⟨n, hn, e1⟩ := H p hp
    rw [e1, fst8_of hn]
    exact ⟨Nat.zero_le _, hn⟩
end Go.Proofs.Ytfpdejkcjijmmaa
