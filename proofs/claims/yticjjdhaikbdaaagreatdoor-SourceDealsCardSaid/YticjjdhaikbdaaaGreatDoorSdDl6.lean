/- The laws SourceDeals and SourceFair (seat D). -/
import Derived.Test.YticjjdhaikbdaaaGreatDoorSdDl4
import Derived.Test.YticjjdhaikbdaaaGreatDoorSdDl5
namespace Go.Proofs.YticjjdhaikbdaaaGreatDoor
open Go Go.RowKit
open Dl (LP isOpen cnt pass Ref Fits sm pos got all Lvl Ord)
set_option linter.unusedVariables false
set_option linter.unusedSimpArgs false
set_option maxRecDepth 8000

theorem SourceDeals_law {hs : List Int} {a : Option Addr} {n c : Nat} {most : Int} (h : Heap) (hra : RdC h a (hs.map iv)) (hn : hs.length = n) (hi : ∀ x ∈ hs, -9223372036854775808 ≤ x ∧ x ≤ 9223372036854775807) (hmo : most ≤ 9223372036854775807) :
    CallsH Tryz.prog 3 [.slice a n c, .int .i64 most] h (Good h) := by
  apply F3_ok
  unfold F3
  refine (F8_spec (sat_old h)).mono ?_
  rintro v h0 ⟨rfl, H0⟩
  rw [DB_bool, Bool.not_true, cond_false]
  cases decide (most > 5000) with
  | true => exact good_of H0
  | false =>
  rw [cond_false]
  by_cases h40 : n ≤ 40
  case neg =>
    rw [decide_eq_true (by omega), cond_true]
    exact good_of H0
  rw [decide_eq_false (by omega), cond_false]
  refine (F9_spec (fun h' H' => hra.old H') hn (by omega) hi hmo H0).mono ?_
  rintro v h1 ⟨a1, l, rfl, hR, hl1, hF, H1⟩
  rw [DSl_slice]
  refine (F10_spec (fun h' H' => by have := H'.mv 1; exact hra.old this) hn (by omega) hi hmo H1).mono ?_
  rintro v h2 ⟨a2, l2, rfl, hR2, _, _, H2⟩
  have el := hR2.uniq hR
  subst el
  rw [DSl_slice, show (((n : Nat) : Int) != (n : Int)) = false from by simp, cond_false]
  have hll : l2.length = n := by rw [← hn, ← hl1, List.length_map]
  refine ⟨fun st hh => hh = h2 ∧ ∃ i : Nat, st = (i : Int) ∧ i ≤ n, fun st _ => ((n : Int) - st).toNat, ⟨rfl, 0, rfl, Nat.zero_le _⟩, ?_⟩
  rintro st h3 ⟨rfl, i, rfl, hin⟩
  by_cases hlt : i < n
  · rw [decide_eq_true (show ((i : Int) < (n : Int)) by omega), cond_true]
    obtain ⟨p, hp⟩ : ∃ p, l2[i]? = some p := ⟨_, List.getElem?_eq_getElem (by omega)⟩
    refine numRead (s := p.2) (ownS_read (H2.mv 1)) (by rw [List.length_map]; exact hll) (by rw [List.getElem?_map, hp]; rfl) fun b hc => CI hc ?_
    refine numRead (s := p.2) (ownS_read H2) (by rw [List.length_map]; exact hll) (by rw [List.getElem?_map, hp]; rfl) fun b hc => CI hc ?_
    rw [show ((p.2 : Int) != p.2) = false from by simp, cond_false, wrap64_succ (by omega)]
    exact ⟨⟨rfl, i + 1, rfl, by omega⟩, by show ((n : Int) - ((i + 1 : Nat) : Int)).toNat < ((n : Int) - (i : Int)).toNat; omega⟩
  · rw [decide_eq_false (by omega), cond_false]
    exact good_of (H2.mv 2)
abbrev i32 (x : Int) : Value := .int .i32 x
end Go.Proofs.YticjjdhaikbdaaaGreatDoor
