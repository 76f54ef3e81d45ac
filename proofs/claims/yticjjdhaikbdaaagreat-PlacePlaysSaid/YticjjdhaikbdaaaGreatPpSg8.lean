/- How large segments are counts for nothing: the law. -/
import Derived.Test.YticjjdhaikbdaaaGreatPpSgA
import Derived.SliceStrings
namespace Go.Proofs.YticjjdhaikbdaaaGreat
open Go Go.RowKit Go.ChangeShapes Go.WideShapes Go.ChangeAt
set_option linter.unusedVariables false
set_option linter.unusedSimpArgs false
open Frame (packN packN_length packN_B8)

/-- A text behind texts that are owned. -/
theorem push_own {a : Option Addr} {c : Nat} {s : ByteArray} {ss : List ByteArray} {F : List HProp} {h : Heap} {K : Nat → Heap → Option Addr → Nat → Nat → Prop} (hb : ss.length < 1000000)
    (H : sat (ownS 9 1 a ss.length c (ss.map Value.string) :: F) h) (hK : ∀ b3 a2 c2 h2, sat (ownS 9 1 a2 (ss ++ [s]).length c2 ((ss ++ [s]).map Value.string) :: F) h2 → K b3 h2 a2 (ss ++ [s]).length c2) :
    Al h (.cells #[.string s] 9) fun b3 h1 => RunH Tryz.prog (Builtin.append_ #[50, 50] 50 #[.slice a ss.length c, .slice (some (Addr.mk b3 0 none)) 1 1]) h1 fun r h2 => DSl r fun ya yl yc => K b3 h2 ya yl yc := by
  refine Al_sat H fun b3 h1 H1 => ?_
  refine append1 (b := 16) (ys := [.string s]) u41 src41 inf9 (H1.mv 1) (srcOf_slice (n := 1) (c := 1) (RdCf H1 rfl) rfl) (by simp [Value.oneCell']) (by omega) fun a2 c2 h2 _ H2 => ?_
  rw [DSl_slice]
  have e : ss.map Value.string ++ [.string s] = (ss ++ [s]).map Value.string := by rw [List.map_append]; rfl
  have e2 : ss.length + 1 = (ss ++ [s]).length := by rw [List.length_append, List.length_singleton]
  rw [e2] at H2 ⊢
  rw [e] at H2
  exact hK b3 a2 c2 h2 ((H2.mv 1).drop)
theorem strRead {ss : List ByteArray} {la : Option Addr} {ll i : Nat} {s : ByteArray} {hh : Heap} {K : Addr → Prop} (hr : RdC hh la (ss.map Value.string)) (hl : ss.length = ll) (hs : ss[i]? = some s)
    (hK : ∀ b, cellAt hh b = some (.string s) → K b) : IdxA la ll (i : Int) 1 K :=
  IdxA_nat (v := .string s) hr (by rw [List.length_map]; exact hl) (by rw [List.getElem?_map, hs]; rfl) fun b hb hc => hK _ hc
theorem CStr {h : Heap} {a : Addr} {x : ByteArray} {K : ByteArray → Prop} (hv : cellAt h a = some (.string x)) (hK : K x) : Ld h a fun v => DS v K := ⟨_, hv, _, rfl, hK⟩
theorem CSl {h : Heap} {a : Addr} {p : Option Addr} {l c : Nat} {K : Option Addr → Nat → Nat → Prop} (hv : cellAt h a = some (.slice p l c)) (hK : K p l c) : Ld h a fun v => DSl v K := ⟨_, hv, by show DSl (.slice p l c) K; rw [DSl_slice]; exact hK⟩
section
variable {ra : Option Addr} {rl rc : Nat} {recs : List ByteArray} {h : Heap}
end

section
variable {H : Type} {enc : TypeId × Value → H} {P : Program} {w : World} {base : Nat} {spare : Nat → Bool} {held : Bool}
end

end Go.Proofs.YticjjdhaikbdaaaGreat
