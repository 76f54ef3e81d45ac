/- Changes done (seat T). -/
import Derived.Test.YtibdiikcigokjaaGreatSkTb6
namespace Go.Proofs.YtibdiikcigokjaaGreat.TS
open Go Go.RowKit
open Tb (T get set del Up Has)
open AF (ltB strLt_irrefl strLt_trans strLt_total)
set_option linter.unusedVariables false
set_option linter.unusedSimpArgs false

theorem appL_take {l : T VT} {es : List Ch} {i : Nat} {x : Ch} (h : es[i]? = some x) : appL l (es.take (i + 1)) = if x.2.2 = true then del (appL l (es.take i)) x.1 else set x.1 x.2.1 (appL l (es.take i)) := by
  unfold appL
  rw [List.take_add_one, h, List.foldl_append]
  rfl
section
variable {h : Heap} {F : List HProp} {a : Option Addr} {n c : Nat}
theorem F41_spec {p : Option Addr} {l : T VT} {es : List Ch} (hr : ∀ h', sat F h' → RdC h' a (es.flatMap chC)) (hn : es.length = n) (hm : n < 1099511627776) (H : sat (tabZ p l :: F) h) :
    CallsH Tryz.prog 41 [.pointer p, .slice a n c] h fun v h' => ∃ b, v = ptrV b ∧ sat (tabP b (appL l es) :: tabZ p l :: F) h' := by
  apply F41_ok
  unfold F41
  refine (F109_Z H).mono ?_
  rintro v h1 ⟨b, rfl, H1⟩
  show DP (.pointer (some ⟨b, 0, none⟩)) _
  rw [DP_pointer]
  refine ⟨fun st hh => ∃ i : Nat, st = (i : Int) ∧ i ≤ n ∧ sat (tabP b (appL l (es.take i)) :: tabZ p l :: F) hh, fun st _ => ((n : Int) - st).toNat, ⟨0, rfl, Nat.zero_le _, H1⟩, ?_⟩
  rintro st h2 ⟨i, rfl, hi, H2⟩
  by_cases hlt : i < n
  · rw [decide_eq_true (show ((i : Int) < (n : Int)) by omega), cond_true]
    obtain ⟨x, hx⟩ : ∃ x, es[i]? = some x := ⟨_, List.getElem?_eq_getElem (by omega)⟩
    have wi : IntKind.wrap .i64 ((i : Int) + 1) = ((i + 1 : Nat) : Int) := wrap64_succ (by omega)
    have hme : ((n : Int) - ((i + 1 : Nat) : Int)).toNat < ((n : Int) - (i : Int)).toNat := by omega
    refine IdxC (f := chC) (fun _ => rfl) (by decide) (hr h2 H2.drop.drop) hn hx fun _ _ hc => ⟨_, hc 0 _ rfl, _, hc 1 _ rfl, _, hc 2 _ rfl, x.1, x.2.1, x.2.2, rfl, ?_⟩
    refine Al_sat H2 fun b0 h3 H3 => StCC H3 (show (0 : Nat) < 3 by decide) rfl fun h4 H4 => StCC H4 (show (1 : Nat) < 3 by decide) rfl fun h5 H5 => StCC H5 (show (2 : Nat) < 3 by decide) rfl fun h6 H6 => ?_
    refine LdC (v := .bool x.2.2) H6 rfl ?_
    rw [DB_bool]
    have et := appL_take (l := l) hx
    have H7 := H6.drop
    cases hg : x.2.2 with
    | true =>
      rw [cond_true]
      refine LdC (v := .string x.1) H6 rfl ?_
      rw [DS_string]
      refine (F110_spec H7).mono ?_
      rintro v h7 ⟨rfl, H8⟩
      rw [DB_bool, wi]
      exact ⟨⟨i + 1, rfl, by omega, by rw [et, if_pos hg]; exact H8⟩, hme⟩
    | false =>
      rw [cond_false]
      refine LdC (v := .string x.1) H6 rfl ?_
      rw [DS_string]
      refine LdC (v := ve x.2.1) H6 rfl ?_
      rw [DV]
      refine (F39_spec H7).mono ?_
      rintro v h7 ⟨rfl, H8⟩
      rw [wi]
      exact ⟨rfl, ⟨i + 1, rfl, by omega, by rw [et, if_neg (by rw [hg]; decide)]; exact H8⟩, hme⟩
  · rw [decide_eq_false (by omega), cond_false]
    rw [List.take_of_length_le (by omega)] at H2
    exact ⟨b, rfl, H2⟩
end

end Go.Proofs.YtibdiikcigokjaaGreat.TS
