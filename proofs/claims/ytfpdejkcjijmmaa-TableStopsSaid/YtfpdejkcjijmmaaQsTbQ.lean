/- Calls and changes that came in (seat T). -/
import Derived.Test.YtfpdejkcjijmmaaQsFlatIn
import Derived.Test.YtfpdejkcjijmmaaQsTb9
namespace Go.Proofs.Ytfpdejkcjijmmaa
open Go Go.RowKit Go.ChangeShapes Go.WideShapes Go.ChangeAt
set_option linter.unusedVariables false
set_option linter.unusedSimpArgs false

theorem rows_dec {α : Type} {ks : List Kd} {f : α → List Value} (hd : ∀ x, isRow ks x → ∃ o, x.map Sc.v = f o) : ∀ (rs : List (List Sc)), (∀ x ∈ rs, isRow ks x) → ∃ os : List α, os.length = rs.length ∧ (rs.flatMap fun x => x.map Sc.v) = os.flatMap f
  | [], _ => ⟨[], rfl, rfl⟩
  | x :: rs, h => by
    obtain ⟨o, ho⟩ := hd x (h x (by simp))
    obtain ⟨os, hl, he⟩ := rows_dec hd rs fun y hy => h y (by simp [hy])
    exact ⟨o :: os, by rw [List.length_cons, List.length_cons, hl], by rw [List.flatMap_cons, List.flatMap_cons, ho, he]⟩
theorem row3 {k0 k1 k2 : Kd} {x : List Sc} (h : isRow [k0, k1, k2] x) : ∃ s0 s1 s2, x = [s0, s1, s2] ∧ k0.of s0 ∧ k1.of s1 ∧ k2.of s2 := by
  obtain ⟨hl, hk⟩ := h
  match x, hl, hk with
  | [s0, s1, s2], _, hk => exact ⟨s0, s1, s2, rfl, hk 0 k0 s0 rfl rfl, hk 1 k1 s1 rfl rfl, hk 2 k2 s2 rfl rfl⟩
theorem of_int {s : Sc} (h : Kd.int.of s) : ∃ z, s = .int z := by
  cases s with
  | int z => exact ⟨z, rfl⟩
  | str b => exact h.elim
  | bool b => exact h.elim
theorem of_str {s : Sc} (h : Kd.str.of s) : ∃ z, s = .str z := by
  cases s with
  | str z => exact ⟨z, rfl⟩
  | int b => exact h.elim
  | bool b => exact h.elim
section
variable {H : Type} {enc : TypeId × Value → H} {P : Program} {w : World} {base : Nat} {spare : Nat → Bool} {held : Bool}
theorem ops_open {r : Reach} {b0 : Nat} {t e : TypeId} {v : Value} {d : DataW H} {p : List MemPlace}
    (ht : P.underlying t = some (.slice e)) (hA : scTy P e [.int, .str, .str] = true) (hv : Value.okWide P w r b0 t v) (h : DataW.Trod enc P w base spare held t v d p) :
    ∃ (a : Option Addr) (l c : Nat) (os : List TS.Op), v = .slice a l c ∧ os.length = l ∧ RdC w.heap a (os.flatMap TS.opC) := by
  obtain ⟨a, l, c, rs, rfl, hl, _, _, hk, hr⟩ := rows_open ht hA (by decide) hv h
  obtain ⟨os, ho, he⟩ := rows_dec (f := TS.opC) (fun x hx => by
    obtain ⟨s0, s1, s2, rfl, h0, h1, h2⟩ := row3 hx
    obtain ⟨z, rfl⟩ := of_int h0
    obtain ⟨k, rfl⟩ := of_str h1
    obtain ⟨u, rfl⟩ := of_str h2
    exact ⟨(z, k, u), rfl⟩) rs hk
  exact ⟨a, l, c, os, rfl, by rw [ho, hl], by rw [← he]; exact hr⟩
end

end Go.Proofs.Ytfpdejkcjijmmaa
