/- Structs and slices of structs that came in, read: the acts of a file system. -/
import Derived.Test.YticjjdhaikbdaaaFs26
import Derived.Deep.Slices
import Derived.ChangeSlices
import Derived.ChangeArms
import Derived.WideShapes
import Derived.ProofKit
import Derived.OpenShut
import Derived.ChangeOld
namespace Go.Proofs.Yticjjdhaikbdaaa
open Go Go.RowKit Go.ChangeShapes Go.WideShapes Go.ChangeAt
set_option linter.unusedVariables false
set_option linter.unusedSimpArgs false

def fldIs (P : Program) (fs : Array Field) (i : Nat) (d : TypeDesc → Bool) : Bool :=
  match fs[i]? with
  | some f => (f.offset == i && P.cellsOf f.type == 1) && match P.underlying f.type with
    | some u => d u
    | none => false
  | none => false
def isI64 : TypeDesc → Bool
  | .int .i64 => true
  | _ => false
def isU8 : TypeDesc → Bool
  | .int .u8 => true
  | _ => false
def isStr : TypeDesc → Bool
  | .string => true
  | _ => false
def isInts (P : Program) : TypeDesc → Bool
  | .slice e => (match P.underlying e with
    | some u => isI64 u
    | none => false) && P.cellsOf e == 1
  | _ => false
def actTy (P : Program) (t : TypeId) : Bool :=
  match P.underlying t with
  | some (.struct fs) => (fs.size == 7 && P.cellsOf t == 7) && (fldIs P fs 0 isI64 && (fldIs P fs 1 isStr && (fldIs P fs 2 isStr && (fldIs P fs 3 isStr && (fldIs P fs 4 isI64 && (fldIs P fs 5 isU8 && fldIs P fs 6 (isInts P)))))))
  | _ => false
section
variable {H : Type} {enc : TypeId × Value → H} {P : Program} {w : World} {base : Nat} {spare : Nat → Bool} {held : Bool}
theorem isI64_eq {u : TypeDesc} (h : isI64 u = true) : u = .int .i64 := by
  unfold isI64 at h
  split at h
  · rfl
  · cases h
theorem isU8_eq {u : TypeDesc} (h : isU8 u = true) : u = .int .u8 := by
  unfold isU8 at h
  split at h
  · rfl
  · cases h
theorem isStr_eq {u : TypeDesc} (h : isStr u = true) : u = .string := by
  unfold isStr at h
  split at h
  · rfl
  · cases h
theorem fld_read {fs : Array Field} {i n : Nat} {d : TypeDesc → Bool} {cs : List Value} {xs : List (DataW H × List MemPlace)} (hf : fldIs P fs i d = true) (hl : i < cs.length) (hx : i < xs.length)
    (hr : ∀ (i : Nat) (f : Field), fs[i]? = some f → DataW.trod enc P w base spare held n f.type ((cs.drop f.offset).take (P.cellsOf f.type)) = xs[i]?) :
    ∃ (t : TypeId) (u : TypeDesc) (y : DataW H × List MemPlace), P.underlying t = some u ∧ d u = true ∧ DataW.trod enc P w base spare held n t [cs[i]] = some y := by
  unfold fldIs at hf
  cases hi : fs[i]? with
  | none => rw [hi] at hf; cases hf
  | some f =>
    rw [hi] at hf
    simp only [Bool.and_eq_true, beq_iff_eq] at hf
    obtain ⟨⟨ho, hc⟩, hu⟩ := hf
    cases hu2 : P.underlying f.type with
    | none => rw [hu2] at hu; cases hu
    | some u =>
      rw [hu2] at hu
      have := hr i f hi
      rw [ho, hc, List.drop_eq_getElem_cons hl, List.getElem?_eq_getElem hx, List.take_succ_cons, List.take_zero] at this
      exact ⟨f.type, u, xs[i], hu2, hu, this⟩
/-- Whole numbers in a slice, read. -/
theorem ints_read {t e : TypeId} {n : Nat} {v : Value} {y : DataW H × List MemPlace} (ht : P.underlying t = some (.slice e)) (he : P.underlying e = some (.int .i64)) (hc : P.cellsOf e = 1) (h : DataW.trod enc P w base spare held n t [v] = some y) :
    ∃ (a : Option Addr) (l c : Nat) (ps : List Int), v = .slice a l c ∧ RdC w.heap a (ps.map iv) ∧ ps.length = l ∧ l ≤ c ∧ c ≤ maxLen := by
  rcases open_ints ht he hc h with ⟨hcs, _⟩ | ⟨a, len, cap, zs, hcs, _, hl, hm, hz, _, hcell, _⟩
  · simp only [List.cons.injEq, and_true] at hcs
    exact ⟨none, 0, 0, [], hcs, rfl, rfl, Nat.le_refl _, Nat.zero_le _⟩
  · simp only [List.cons.injEq, and_true] at hcs
    have hzl : len ≤ zs.length := by
      rw [hz]
      split <;> omega
    refine ⟨some a, len, cap, zs.take len, hcs, ?_, by rw [List.length_take]; omega, hl, hm⟩
    intro j v hv
    rw [List.getElem?_map, List.getElem?_take] at hv
    split at hv
    · rename_i hj
      have h2 := hcell j (by omega)
      rw [List.getElem?_eq_getElem (by omega)] at hv
      simp only [Option.map_some, Option.some.injEq] at hv
      rw [cell_world, List.getD_eq_getElem?_getD, List.getElem?_eq_getElem (by omega)] at h2
      rw [h2, ← hv]
      rfl
    · cases hv
/-- An act, as the cells have it. -/
structure ActV where
  k : Int
  dir : ByteArray
  name : ByteArray
  b : ByteArray
  n : Int
  turn : Int
  pa : Option Addr
  pl : Nat
  pc : Nat
def ActV.cells (x : ActV) : List Value := [.int .i64 x.k, .string x.dir, .string x.name, .string x.b, .int .i64 x.n, .int .u8 x.turn, .slice x.pa x.pl x.pc]
/-- What is known of one that came in. -/
structure ActOk (h : Heap) (x : ActV) : Prop where
  k : -9223372036854775808 ≤ x.k ∧ x.k ≤ 9223372036854775807
  n : -9223372036854775808 ≤ x.n ∧ x.n ≤ 9223372036854775807
  turn : 0 ≤ x.turn ∧ x.turn < 256
  dir : x.dir.size ≤ maxLen
  name : x.name.size ≤ maxLen
  b : x.b.size ≤ maxLen
  picks : ∃ ps : List Int, RdC h x.pa (ps.map iv) ∧ ps.length = x.pl ∧ x.pl ≤ x.pc ∧ x.pc ≤ maxLen
theorem act_read {t : TypeId} {fuel : Nat} {cs : List Value} {x : DataW H × List MemPlace} (hA : actTy P t = true) (h : DataW.trod enc P w base spare held fuel t cs = some x) : ∃ v : ActV, cs = v.cells ∧ ActOk w.heap v := by
  unfold actTy at hA
  cases hu : P.underlying t with
  | none => rw [hu] at hA; cases hA
  | some u =>
    rw [hu] at hA
    cases u with
    | struct fs =>
      simp only [Bool.and_eq_true, beq_iff_eq] at hA
      obtain ⟨⟨hsz, hC⟩, f0, f1, f2, f3, f4, f5, f6⟩ := hA
      obtain ⟨xs, n, _, _, hlen, hxl, hr⟩ := DataW.trod_struct hu h
      rw [hC] at hlen
      rw [hsz] at hxl
      obtain ⟨t0, u0, y0, e0, d0, r0⟩ := fld_read f0 (by omega) (by omega) hr
      obtain ⟨t1, u1, y1, e1, d1, r1⟩ := fld_read f1 (by omega) (by omega) hr
      obtain ⟨t2, u2, y2, e2, d2, r2⟩ := fld_read f2 (by omega) (by omega) hr
      obtain ⟨t3, u3, y3, e3, d3, r3⟩ := fld_read f3 (by omega) (by omega) hr
      obtain ⟨t4, u4, y4, e4, d4, r4⟩ := fld_read f4 (by omega) (by omega) hr
      obtain ⟨t5, u5, y5, e5, d5, r5⟩ := fld_read f5 (by omega) (by omega) hr
      obtain ⟨t6, u6, y6, e6, d6, r6⟩ := fld_read f6 (by omega) (by omega) hr
      rw [isI64_eq d0] at e0
      rw [isStr_eq d1] at e1
      rw [isStr_eq d2] at e2
      rw [isStr_eq d3] at e3
      rw [isI64_eq d4] at e4
      rw [isU8_eq d5] at e5
      obtain ⟨z0, c0, _, w0⟩ := DataW.trod_int e0 r0
      obtain ⟨s1, c1, _, w1⟩ := DataW.trod_string e1 r1
      obtain ⟨s2, c2, _, w2⟩ := DataW.trod_string e2 r2
      obtain ⟨s3, c3, _, w3⟩ := DataW.trod_string e3 r3
      obtain ⟨z4, c4, _, w4⟩ := DataW.trod_int e4 r4
      obtain ⟨z5, c5, _, w5⟩ := DataW.trod_int e5 r5
      have c6 : ∃ (a : Option Addr) (l c : Nat) (ps : List Int), cs[6] = .slice a l c ∧ RdC w.heap a (ps.map iv) ∧ ps.length = l ∧ l ≤ c ∧ c ≤ maxLen := by
        unfold isInts at d6
        split at d6
        · rename_i e
          simp only [Bool.and_eq_true, beq_iff_eq] at d6
          obtain ⟨d7, hc7⟩ := d6
          cases he : P.underlying e with
          | none => rw [he] at d7; cases d7
          | some u7 =>
            rw [he] at d7
            rw [isI64_eq d7] at he
            exact ints_read e6 he hc7 r6
        · cases d6
      obtain ⟨a, l, c, ps, c6, hrd, hpl, hlc, hcm⟩ := c6
      simp only [List.cons.injEq, and_true] at c0 c1 c2 c3 c4 c5
      refine ⟨⟨z0, s1, s2, s3, z4, z5, a, l, c⟩, ?_, ?_⟩
      · apply List.ext_getElem
        · exact hlen
        · intro i h1 h2
          have : i = 0 ∨ i = 1 ∨ i = 2 ∨ i = 3 ∨ i = 4 ∨ i = 5 ∨ i = 6 := by omega
          rcases this with rfl | rfl | rfl | rfl | rfl | rfl | rfl
          · exact c0
          · exact c1
          · exact c2
          · exact c3
          · exact c4
          · exact c5
          · exact c6
      · simp only [Lit.wf, Bool.and_eq_true, decide_eq_true_eq] at w0 w4 w5
        exact ⟨⟨w0.1, w0.2⟩, ⟨w4.1, w4.2⟩, ⟨w5.1, by have := w5.2; exact Int.lt_of_le_of_lt this (by decide)⟩, w1, w2, w3, ps, hrd, hpl, hlc, hcm⟩
    | _ => cases hA
/-- An act by value. -/
theorem act_open {r : Reach} {b0 : Nat} {t : TypeId} {v : Value} {d : DataW H} {p : List MemPlace} (hA : actTy P t = true) (hv : Value.okWide P w r b0 t v) (h : DataW.Trod enc P w base spare held t v d p) :
    ∃ x : ActV, v = .agg x.cells.toArray ∧ ActOk w.heap x := by
  obtain ⟨fuel, hf⟩ := h
  have hs : ∃ fs, P.underlying t = some (.struct fs) := by
    unfold actTy at hA
    split at hA
    · exact ⟨_, by assumption⟩
    · cases hA
  obtain ⟨fs, hs⟩ := hs
  obtain ⟨cs, rfl, hsz⟩ := okWide_struct hs hv
  obtain ⟨x, hx, ho⟩ := act_read hA hf
  refine ⟨x, ?_, ho⟩
  have : cs.toList = x.cells := hx
  rw [← this]
end

end Go.Proofs.Yticjjdhaikbdaaa
