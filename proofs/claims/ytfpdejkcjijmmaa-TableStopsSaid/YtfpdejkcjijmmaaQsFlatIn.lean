/- Slices of flat structs that came in, read (seat T; needs nothing of the program). -/
import Derived.Test.YtfpdejkcjijmmaaQsFwB
import Derived.Deep.Slices
import Derived.ChangeSlices
import Derived.ChangeArms
import Derived.WideShapes
import Derived.ProofKit
import Derived.OpenShut
import Derived.ChangeOld
namespace Go.Proofs.Ytfpdejkcjijmmaa
open Go Go.RowKit Go.ChangeShapes Go.WideShapes Go.ChangeAt
set_option linter.unusedVariables false
set_option linter.unusedSimpArgs false

inductive Kd where
  | int
  | str
  | bool
inductive Sc where
  | int (z : Int)
  | str (b : ByteArray)
  | bool (x : Bool)
def Sc.v : Sc → Value
  | .int z => .int .i64 z
  | .str b => .string b
  | .bool x => .bool x
def kdI : TypeDesc → Bool
  | .int .i64 => true
  | _ => false
def kdS : TypeDesc → Bool
  | .string => true
  | _ => false
def kdB : TypeDesc → Bool
  | .bool => true
  | _ => false
def Kd.is : Kd → TypeDesc → Bool
  | .int => kdI
  | .str => kdS
  | .bool => kdB
def Kd.of : Kd → Sc → Prop
  | .int, .int z => -9223372036854775808 ≤ z ∧ z ≤ 9223372036854775807
  | .str, .str _ => True
  | .bool, .bool _ => True
  | _, _ => False
def fldSc (P : Program) (fs : Array Field) (i : Nat) (k : Kd) : Bool :=
  match fs[i]? with
  | some f => (f.offset == i && P.cellsOf f.type == 1) && match P.underlying f.type with
    | some u => k.is u
    | none => false
  | none => false
/-- A struct of such fields. -/
def scTy (P : Program) (t : TypeId) (ks : List Kd) : Bool :=
  match P.underlying t with
  | some (.struct fs) => (fs.size == ks.length && P.cellsOf t == ks.length) && (List.range ks.length).all fun i => match ks[i]? with
    | some k => fldSc P fs i k
    | none => false
  | _ => false
section
variable {H : Type} {enc : TypeId × Value → H} {P : Program} {w : World} {base : Nat} {spare : Nat → Bool} {held : Bool}
theorem sc_read {k : Kd} {t : TypeId} {u : TypeDesc} {n : Nat} {v : Value} {y : DataW H × List MemPlace} (hu : P.underlying t = some u) (hk : k.is u = true) (h : DataW.trod enc P w base spare held n t [v] = some y) : ∃ s : Sc, v = s.v ∧ k.of s := by
  cases k with
  | int =>
    have : u = .int .i64 := by
      replace hk : kdI u = true := hk
      unfold kdI at hk
      split at hk
      · rfl
      · cases hk
    subst this
    obtain ⟨z0, c0, _, w0⟩ := DataW.trod_int hu h
    simp only [List.cons.injEq, and_true] at c0
    simp only [Lit.wf, Bool.and_eq_true, decide_eq_true_eq] at w0
    exact ⟨.int z0, c0, w0⟩
  | str =>
    have : u = .string := by
      replace hk : kdS u = true := hk
      unfold kdS at hk
      split at hk
      · rfl
      · cases hk
    subst this
    obtain ⟨z0, c0, _⟩ := DataW.trod_string hu h
    simp only [List.cons.injEq, and_true] at c0
    exact ⟨.str z0, c0, trivial⟩
  | bool =>
    have : u = .bool := by
      replace hk : kdB u = true := hk
      unfold kdB at hk
      split at hk
      · rfl
      · cases hk
    subst this
    obtain ⟨z0, c0, _⟩ := DataW.trod_bool hu h
    simp only [List.cons.injEq, and_true] at c0
    exact ⟨.bool z0, c0, trivial⟩
theorem scTy_cells {t : TypeId} {ks : List Kd} (h : scTy P t ks = true) : P.cellsOf t = ks.length := by
  unfold scTy at h
  split at h
  · simp only [Bool.and_eq_true, beq_iff_eq] at h
    exact h.1.2
  · cases h
/-- A row of scalars, of these kinds. -/
def isRow (ks : List Kd) (x : List Sc) : Prop := x.length = ks.length ∧ ∀ (i : Nat) (k : Kd) (s : Sc), ks[i]? = some k → x[i]? = some s → k.of s
theorem scRow_read {t : TypeId} {fuel : Nat} {ks : List Kd} {cs : List Value} {x : DataW H × List MemPlace} (hA : scTy P t ks = true) (h : DataW.trod enc P w base spare held fuel t cs = some x) : ∃ r : List Sc, cs = r.map Sc.v ∧ isRow ks r := by
  have hC := scTy_cells hA
  unfold scTy at hA
  cases hu : P.underlying t with
  | none => rw [hu] at hA; cases hA
  | some u =>
    rw [hu] at hA
    cases u with
    | struct fs =>
      simp only [Bool.and_eq_true, beq_iff_eq] at hA
      obtain ⟨⟨hsz, _⟩, hall⟩ := hA
      obtain ⟨xs, n, _, _, hlen, hxl, hr⟩ := DataW.trod_struct hu h
      rw [hC] at hlen
      rw [hsz] at hxl
      have each : ∀ i, i < ks.length → ∃ s : Sc, cs[i]? = some s.v ∧ ∀ k, ks[i]? = some k → k.of s := by
        intro i hi
        have hf := (List.all_eq_true.1 hall) i (List.mem_range.2 hi)
        rw [List.getElem?_eq_getElem hi] at hf
        simp only [fldSc] at hf
        cases hi2 : fs[i]? with
        | none => rw [hi2] at hf; cases hf
        | some f =>
          rw [hi2] at hf
          simp only [Bool.and_eq_true, beq_iff_eq] at hf
          obtain ⟨⟨ho, hc⟩, hu⟩ := hf
          cases hu2 : P.underlying f.type with
          | none => rw [hu2] at hu; cases hu
          | some u =>
            rw [hu2] at hu
            have := hr i f hi2
            rw [ho, hc, List.drop_eq_getElem_cons (show i < cs.length by omega), List.getElem?_eq_getElem (show i < xs.length by omega), List.take_succ_cons, List.take_zero] at this
            obtain ⟨s, hs, hk⟩ := sc_read hu2 hu this
            refine ⟨s, by rw [List.getElem?_eq_getElem (show i < cs.length by omega), hs], fun k hk2 => ?_⟩
            rw [List.getElem?_eq_getElem hi] at hk2
            cases hk2
            exact hk
      obtain ⟨r, hrl, hr2⟩ := choose_list (P := fun i (s : Sc) => cs[i]? = some s.v ∧ ∀ k, ks[i]? = some k → k.of s) ks.length each
      refine ⟨r, ?_, hrl, fun i k s hk hs => (hr2 i s hs).2 k hk⟩
      apply List.ext_getElem?
      intro j
      rw [List.getElem?_map]
      by_cases hj : j < ks.length
      · have := hr2 j r[j] (List.getElem?_eq_getElem (by omega))
        rw [this.1, List.getElem?_eq_getElem (by omega)]
        rfl
      · rw [List.getElem?_eq_none (by omega), List.getElem?_eq_none (by omega)]
        rfl
    | _ => cases hA
theorem rows_open {r : Reach} {b0 : Nat} {t e : TypeId} {v : Value} {d : DataW H} {p : List MemPlace} {ks : List Kd}
    (ht : P.underlying t = some (.slice e)) (hA : scTy P e ks = true) (h0 : 0 < ks.length) (hv : Value.okWide P w r b0 t v) (h : DataW.Trod enc P w base spare held t v d p) :
    ∃ (a : Option Addr) (l c : Nat) (rs : List (List Sc)), v = .slice a l c ∧ rs.length = l ∧ l ≤ c ∧ c ≤ maxLen ∧ (∀ x ∈ rs, isRow ks x) ∧ RdC w.heap a (rs.flatMap fun x => x.map Sc.v) := by
  obtain ⟨a, l, c, rfl⟩ := okWide_slice ht hv
  obtain ⟨fuel, hf⟩ := h
  rcases Go.Deep.open_slice ht hf with ⟨hcs, _⟩ | ⟨a', len, cap, m, n, D, Pl, hcs, hb, hl, hm, hmm, _, hel⟩
  · simp [Value.cells] at hcs
    obtain ⟨rfl, rfl, rfl⟩ := hcs
    exact ⟨none, 0, 0, [], rfl, rfl, Nat.le_refl _, Nat.zero_le _, fun x hx => by simp at hx, rfl⟩
  · simp [Value.cells] at hcs
    obtain ⟨rfl, rfl, rfl⟩ := hcs
    rw [scTy_cells hA] at hel
    have hlm : l ≤ m := by
      rw [hmm]
      split <;> omega
    obtain ⟨rs, hal, hac⟩ := choose_list (P := fun i (x : List Sc) => isRow ks x ∧ ∀ (j : Nat) (v : Value), (x.map Sc.v)[j]? = some v → cellAt w.heap (a'.add (i * ks.length + j)) = some v) l fun i hi => by
      obtain ⟨cs', hc1, hc2⟩ := hel i (by omega)
      obtain ⟨x, hx, hok⟩ := scRow_read hA hc2
      refine ⟨x, hok, fun j v hj => ?_⟩
      obtain ⟨_, _, hcell⟩ := World.cells?_some hc1
      have hj7 : j < ks.length := by
        have := (List.getElem?_eq_some_iff.1 hj).1
        rw [List.length_map, hok.1] at this
        exact this
      have := hcell j hj7
      rw [hx, hj, cell_world, addr_add_add] at this
      exact this
    refine ⟨some a', l, c, rs, rfl, hal, hl, hm, fun x hx => ?_, ?_⟩
    · obtain ⟨i, hi⟩ := List.getElem?_of_mem hx
      exact (hac i x hi).1
    · intro j v hj
      have hrl : ∀ x ∈ rs, (x.map Sc.v).length = ks.length := fun x hx => by
        obtain ⟨i, hi⟩ := List.getElem?_of_mem hx
        rw [List.length_map, (hac i x hi).1.1]
      have key : ∀ (ys : List (List Sc)) (i0 j : Nat), (∀ (i : Nat) (x : List Sc), ys[i]? = some x → isRow ks x ∧ ∀ (j : Nat) (v : Value), (x.map Sc.v)[j]? = some v → cellAt w.heap (a'.add ((i0 + i) * ks.length + j)) = some v) →
          (ys.flatMap fun x => x.map Sc.v)[j]? = some v → cellAt w.heap (a'.add (i0 * ks.length + j)) = some v := by
        intro ys
        induction ys with
        | nil => intro i0 j _ h; simp at h
        | cons y ys ih =>
          intro i0 j hy hj
          have hy0 := hy 0 y rfl
          have hyl : (y.map Sc.v).length = ks.length := by rw [List.length_map, hy0.1.1]
          rw [List.flatMap_cons] at hj
          by_cases hlt : j < ks.length
          · rw [List.getElem?_append_left (by omega)] at hj
            have := hy0.2 j v hj
            rwa [Nat.add_zero] at this
          · rw [List.getElem?_append_right (by omega), hyl] at hj
            have := ih (i0 + 1) (j - ks.length) (fun i x hi => by
              have := hy (i + 1) x (by simpa using hi)
              rwa [show i0 + (i + 1) = i0 + 1 + i by omega] at this) hj
            rwa [show (i0 + 1) * ks.length + (j - ks.length) = i0 * ks.length + j by rw [Nat.add_mul, Nat.one_mul]; omega] at this
      have := key rs 0 j (fun i x hi => by rw [Nat.zero_add]; exact hac i x hi) hj
      rwa [Nat.zero_mul, Nat.zero_add] at this
end

end Go.Proofs.Ytfpdejkcjijmmaa
