/- Calls whose outcome is known; the chapter's example. A rename over another file: wholly or not at all; what is safe stays. FsRenames, FsSafe: the walks. Slices of whole numbers that came in. No file system: what it answers. Structs and slices of structs that came in, read: the acts of a file system. Slices of acts that came in; how heavy they are. -/
import Derived.Test.YticjjdhaikbdaaaGreatPpFsD
import Derived.Test.YticjjdhaikbdaaaGreatPpFsB
import Derived.Deep.Slices
import Derived.ChangeSlices
import Derived.ChangeArms
import Derived.WideShapes
import Derived.ProofKit
import Derived.OpenShut
import Derived.ChangeOld

namespace Go.Proofs.YticjjdhaikbdaaaGreat
open Go Go.RowKit Go.MapKept
set_option linter.unusedVariables false
set_option linter.unusedSimpArgs false

abbrev dN : ByteArray := ⟨#[100]⟩
abbrev aN : ByteArray := ⟨#[97]⟩
abbrev tN : ByteArray := ⟨#[116]⟩
theorem new_wf {room : Nat} (hr : room ≤ 1073741824) : AF.FS.WF ⟨room, 0, none, false, [], []⟩ :=
  ⟨hr, List.Pairwise.nil, by simp, List.Pairwise.nil, by simp, by simp, by simp⟩
theorem RdCf {F : List HProp} {h : Heap} {b0 : Nat} {e : TypeId} {fr : Nat × Nat} {cs : Array Value} {xs : List Value} (H : sat (pt b0 (.cells cs e fr) :: F) h) (hx : cs.toList = xs) : RdC h (some ⟨b0, 0, none⟩) xs := by
  intro j u hv
  rw [cell_of_pt H.get, ← hv, ← hx, Array.getElem?_toList]
section
variable {b : Nat} {A A' : AF.FS} {e : Nat} {F : List HProp} {h : Heap} {dir name : ByteArray}
abbrev Done (b : Nat) (A' : AF.FS) (e : Nat) (F : List HProp) : Value → Heap → Prop := fun v h' => v = .int .i64 (e : Int) ∧ A'.WF ∧ sat (fsP b A' :: F) h'
theorem c16 (he : A.mkdir dir = (A', e)) (W : A.WF) (hs : A.steps < 1099511627776) (hd : dir.size < 4611686018427387904) (H : sat (fsP b A :: F) h) : CallsH Tryz.prog 74 [ptrV b, .string dir] h (Done b A' e F) := by
  have W2 := W.mkdir dir
  refine (F74_spec W hs hd H).mono ?_
  rintro v h' ⟨rfl, H2⟩
  rw [he] at W2 H2 ⊢
  exact ⟨rfl, W2, H2⟩
theorem c17 (he : A.create dir name = (A', e)) (W : A.WF) (hs : A.steps < 1099511627776) (hd : dir.size < 4611686018427387904) (hn : name.size < 4611686018427387904) (H : sat (fsP b A :: F) h) : CallsH Tryz.prog 49 [ptrV b, .string dir, .string name] h (Done b A' e F) := by
  have W2 := W.create dir name
  refine (F49_spec W hs hd hn H).mono ?_
  rintro v h' ⟨rfl, H2⟩
  rw [he] at W2 H2 ⊢
  exact ⟨rfl, W2, H2⟩
theorem c18 {ba : Option Addr} {bl bc : Nat} {bs : List Nat} (he : A.append dir name bs = (A', e)) (W : A.WF) (hs : A.steps < 1099511627776) (hd : dir.size < 4611686018427387904) (hn : name.size < 4611686018427387904)
    (hr : ∀ h', sat F h' → RdC h' ba (bs.map nv)) (h8 : B8 bs) (hl : bs.length = bl) (hlb : bl < 4611686018427387904) (H : sat (fsP b A :: F) h) : CallsH Tryz.prog 51 [ptrV b, .string dir, .string name, .slice ba bl bc] h (Done b A' e F) := by
  have W2 := W.append dir name h8
  refine (F51_spec W hs hd hn hr hl hlb H).mono ?_
  rintro v h' ⟨rfl, H2⟩
  rw [he] at W2 H2 ⊢
  exact ⟨rfl, W2, H2⟩
theorem c19 (he : A.sync dir name = (A', e)) (W : A.WF) (hs : A.steps < 1099511627776) (hd : dir.size < 4611686018427387904) (hn : name.size < 4611686018427387904) (H : sat (fsP b A :: F) h) : CallsH Tryz.prog 53 [ptrV b, .string dir, .string name] h (Done b A' e F) := by
  have W2 := W.sync dir name
  refine (F53_spec W hs hd hn H).mono ?_
  rintro v h' ⟨rfl, H2⟩
  rw [he] at W2 H2 ⊢
  exact ⟨rfl, W2, H2⟩
theorem c20 (he : A.syncDir dir = (A', e)) (W : A.WF) (hs : A.steps < 1099511627776) (hd : dir.size < 4611686018427387904) (H : sat (fsP b A :: F) h) : CallsH Tryz.prog 57 [ptrV b, .string dir] h (Done b A' e F) := by
  have W2 := W.syncDir dir
  refine (F57_spec W hs hd H).mono ?_
  rintro v h' ⟨rfl, H2⟩
  rw [he] at W2 H2 ⊢
  exact ⟨rfl, W2, H2⟩
theorem c21 {n : Int} (he : A.setFuse n = (A', e)) (W : A.WF) (hn : n ≤ 9223372036854775807) (H : sat (fsP b A :: F) h) : CallsH Tryz.prog 37 [ptrV b, .int .i64 n] h (Done b A' e F) := by
  have W2 := W.setFuse hn
  refine (F37_spec H).mono ?_
  rintro v h' ⟨rfl, H2⟩
  rw [he] at W2 H2 ⊢
  exact ⟨rfl, W2, H2⟩
theorem c22 {k : ByteArray} (he : A.rename dir name k = (A', e)) (W : A.WF) (hs : A.steps < 1099511627776) (hd : dir.size < 4611686018427387904) (hn : name.size < 4611686018427387904) (hk : k.size < 4611686018427387904) (H : sat (fsP b A :: F) h) : CallsH Tryz.prog 55 [ptrV b, .string dir, .string name, .string k] h (Done b A' e F) := by
  have W2 := W.rename dir name k
  refine (F55_spec W hs hd hn hk H).mono ?_
  rintro v h' ⟨rfl, H2⟩
  rw [he] at W2 H2 ⊢
  exact ⟨rfl, W2, H2⟩
/-- Bytes of a text, appended. -/
theorem cText {s : ByteArray} {K : Value → Heap → Prop} (H : sat F h) (hz : s.size ≤ maxLen) (hK : ∀ a c h', sat (ownS 5 1 a s.size c ((sb s).map nv) :: F) h' → K (.slice a s.size c) h') : RunH Tryz.prog (Go.convert 9 40 (.string s)) h K :=
  bytesOfB (by kernel_rfl) u31 (by kernel_rfl) hz H fun b c h' H' => hK _ c h' H'
end

end Go.Proofs.YticjjdhaikbdaaaGreat

namespace Go.Proofs.YticjjdhaikbdaaaGreat
open Go Go.RowKit Go.MapKept
set_option linter.unusedVariables false
set_option linter.unusedSimpArgs false

namespace AF
theorem append_do {f : FS} {dir name : ByteArray} {b : List Nat} {i x : Nat} (he : f.entry dir name = .ok (i, x)) (hl : (f.X x).b.length + b.length ≤ 16777216) (hr : f.used + b.length ≤ f.room) :
    f.append dir name b = f.step fun g => g.setFile x fun y => { y with b := y.b ++ b } := by
  unfold FS.append
  rw [he]
  simp only [if_neg (Nat.not_lt.2 hl), if_neg (Nat.not_lt.2 hr)]
/-- The state before the crash, by how many steps the fuse let through. -/
def R11 (e n : List Nat) : Nat → FS
  | 0 => ⟨1048576, 5, some 0, true, [⟨e, e.length⟩], [⟨dN, [(aN, 0)], [(aN, 0)], []⟩]⟩
  | 1 => ⟨1048576, 6, some 0, true, [⟨e, e.length⟩, ⟨[], 0⟩], [⟨dN, [(aN, 0), (tN, 1)], [(aN, 0)], [.create tN 1]⟩]⟩
  | 2 => ⟨1048576, 7, some 0, true, [⟨e, e.length⟩, ⟨n, 0⟩], [⟨dN, [(aN, 0), (tN, 1)], [(aN, 0)], [.create tN 1]⟩]⟩
  | 3 => ⟨1048576, 8, some 0, true, [⟨e, e.length⟩, ⟨n, n.length⟩], [⟨dN, [(aN, 0), (tN, 1)], [(aN, 0)], [.create tN 1]⟩]⟩
  | 4 => ⟨1048576, 9, some 0, true, [⟨e, e.length⟩, ⟨n, n.length⟩], [⟨dN, [(aN, 1)], [(aN, 0)], [.create tN 1, .rename tN aN]⟩]⟩
  | m + 5 => ⟨1048576, 10, some m, false, [⟨e, e.length⟩, ⟨n, n.length⟩], [⟨dN, [(aN, 1)], [(aN, 1)], []⟩]⟩
end AF

end Go.Proofs.YticjjdhaikbdaaaGreat

namespace Go.Proofs.YticjjdhaikbdaaaGreat
open Go Go.RowKit Go.MapKept
set_option linter.unusedVariables false
set_option linter.unusedSimpArgs false

/-! ### what is safe stays -/
namespace AF
end AF
theorem right_size {s : ByteArray} (h : AF.right s = true) : s.size ≤ 32 := by
  unfold AF.right at h
  simp only [Bool.and_eq_true, decide_eq_true_eq] at h
  exact h.1.2
end Go.Proofs.YticjjdhaikbdaaaGreat

namespace Go.Proofs.YticjjdhaikbdaaaGreat
open Go Go.RowKit
set_option linter.unusedVariables false

end Go.Proofs.YticjjdhaikbdaaaGreat

namespace Go.Proofs.YticjjdhaikbdaaaGreat
open Go Go.RowKit
set_option linter.unusedVariables false
set_option linter.unusedSimpArgs false

section
variable {h : Heap} {F : List HProp} {dir name k : ByteArray} {a : Option Addr} {l c : Nat} {n t : Int}
end
end Go.Proofs.YticjjdhaikbdaaaGreat

namespace Go.Proofs.YticjjdhaikbdaaaGreat
open Go Go.RowKit Go.ChangeShapes Go.WideShapes Go.ChangeAt
set_option linter.unusedVariables false
set_option linter.unusedSimpArgs false

def fldIs (P : Program) (fs : Array Field) (i : Nat) (d : TypeDesc → Bool) : Bool :=
  match fs[i]? with
  | some f => (f.offset == i && P.cellsOf f.type == 1) && match P.underlying f.type with
    | some u => d u
    | none => false
  | none => false
def isI64 : TypeDesc → Bool
  | .int .i64 => true
  | _ => false
def isU8 : TypeDesc → Bool
  | .int .u8 => true
  | _ => false
def isStr : TypeDesc → Bool
  | .string => true
  | _ => false
def isInts (P : Program) : TypeDesc → Bool
  | .slice e => (match P.underlying e with
    | some u => isI64 u
    | none => false) && P.cellsOf e == 1
  | _ => false
def actTy (P : Program) (t : TypeId) : Bool :=
  match P.underlying t with
  | some (.struct fs) => (fs.size == 7 && P.cellsOf t == 7) && (fldIs P fs 0 isI64 && (fldIs P fs 1 isStr && (fldIs P fs 2 isStr && (fldIs P fs 3 isStr && (fldIs P fs 4 isI64 && (fldIs P fs 5 isU8 && fldIs P fs 6 (isInts P)))))))
  | _ => false
section
variable {H : Type} {enc : TypeId × Value → H} {P : Program} {w : World} {base : Nat} {spare : Nat → Bool} {held : Bool}
theorem isI64_eq {u : TypeDesc} (h : isI64 u = true) : u = .int .i64 := by
  unfold isI64 at h
  split at h
  · rfl
  · cases h
theorem isU8_eq {u : TypeDesc} (h : isU8 u = true) : u = .int .u8 := by
  unfold isU8 at h
  split at h
  · rfl
  · cases h
theorem isStr_eq {u : TypeDesc} (h : isStr u = true) : u = .string := by
  unfold isStr at h
  split at h
  · rfl
  · cases h
theorem fld_read {fs : Array Field} {i n : Nat} {d : TypeDesc → Bool} {cs : List Value} {xs : List (DataW H × List MemPlace)} (hf : fldIs P fs i d = true) (hl : i < cs.length) (hx : i < xs.length)
    (hr : ∀ (i : Nat) (f : Field), fs[i]? = some f → DataW.trod enc P w base spare held n f.type ((cs.drop f.offset).take (P.cellsOf f.type)) = xs[i]?) :
    ∃ (t : TypeId) (u : TypeDesc) (y : DataW H × List MemPlace), P.underlying t = some u ∧ d u = true ∧ DataW.trod enc P w base spare held n t [cs[i]] = some y := by
  unfold fldIs at hf
  cases hi : fs[i]? with
  | none => rw [hi] at hf; cases hf
  | some f =>
    rw [hi] at hf
    simp only [Bool.and_eq_true, beq_iff_eq] at hf
    obtain ⟨⟨ho, hc⟩, hu⟩ := hf
    cases hu2 : P.underlying f.type with
    | none => rw [hu2] at hu; cases hu
    | some u =>
      rw [hu2] at hu
      have := hr i f hi
      rw [ho, hc, List.drop_eq_getElem_cons hl, List.getElem?_eq_getElem hx, List.take_succ_cons, List.take_zero] at this
      exact ⟨f.type, u, xs[i], hu2, hu, this⟩
/-- Whole numbers in a slice, read. -/
theorem ints_read {t e : TypeId} {n : Nat} {v : Value} {y : DataW H × List MemPlace} (ht : P.underlying t = some (.slice e)) (he : P.underlying e = some (.int .i64)) (hc : P.cellsOf e = 1) (h : DataW.trod enc P w base spare held n t [v] = some y) :
    ∃ (a : Option Addr) (l c : Nat) (ps : List Int), v = .slice a l c ∧ RdC w.heap a (ps.map iv) ∧ ps.length = l ∧ l ≤ c ∧ c ≤ maxLen := by
  rcases open_ints ht he hc h with ⟨hcs, _⟩ | ⟨a, len, cap, zs, hcs, _, hl, hm, hz, _, hcell, _⟩
  · simp only [List.cons.injEq, and_true] at hcs
    exact ⟨none, 0, 0, [], hcs, rfl, rfl, Nat.le_refl _, Nat.zero_le _⟩
  · simp only [List.cons.injEq, and_true] at hcs
    have hzl : len ≤ zs.length := by
      rw [hz]
      split <;> omega
    refine ⟨some a, len, cap, zs.take len, hcs, ?_, by rw [List.length_take]; omega, hl, hm⟩
    intro j v hv
    rw [List.getElem?_map, List.getElem?_take] at hv
    split at hv
    · rename_i hj
      have h2 := hcell j (by omega)
      rw [List.getElem?_eq_getElem (by omega)] at hv
      simp only [Option.map_some, Option.some.injEq] at hv
      rw [cell_world, List.getD_eq_getElem?_getD, List.getElem?_eq_getElem (by omega)] at h2
      rw [h2, ← hv]
      rfl
    · cases hv
/-- An act, as the cells have it. -/
structure ActV where
  k : Int
  dir : ByteArray
  name : ByteArray
  b : ByteArray
  n : Int
  turn : Int
  pa : Option Addr
  pl : Nat
  pc : Nat
def ActV.cells (x : ActV) : List Value := [.int .i64 x.k, .string x.dir, .string x.name, .string x.b, .int .i64 x.n, .int .u8 x.turn, .slice x.pa x.pl x.pc]
/-- What is known of one that came in. -/
structure ActOk (h : Heap) (x : ActV) : Prop where
  k : -9223372036854775808 ≤ x.k ∧ x.k ≤ 9223372036854775807
  n : -9223372036854775808 ≤ x.n ∧ x.n ≤ 9223372036854775807
  turn : 0 ≤ x.turn ∧ x.turn < 256
  dir : x.dir.size ≤ maxLen
  name : x.name.size ≤ maxLen
  b : x.b.size ≤ maxLen
  picks : ∃ ps : List Int, RdC h x.pa (ps.map iv) ∧ ps.length = x.pl ∧ x.pl ≤ x.pc ∧ x.pc ≤ maxLen
theorem act_read {t : TypeId} {fuel : Nat} {cs : List Value} {x : DataW H × List MemPlace} (hA : actTy P t = true) (h : DataW.trod enc P w base spare held fuel t cs = some x) : ∃ v : ActV, cs = v.cells ∧ ActOk w.heap v := by
  unfold actTy at hA
  cases hu : P.underlying t with
  | none => rw [hu] at hA; cases hA
  | some u =>
    rw [hu] at hA
    cases u with
    | struct fs =>
      simp only [Bool.and_eq_true, beq_iff_eq] at hA
      obtain ⟨⟨hsz, hC⟩, f0, f1, f2, f3, f4, f5, f6⟩ := hA
      obtain ⟨xs, n, _, _, hlen, hxl, hr⟩ := DataW.trod_struct hu h
      rw [hC] at hlen
      rw [hsz] at hxl
      obtain ⟨t0, u0, y0, e0, d0, r0⟩ := fld_read f0 (by omega) (by omega) hr
      obtain ⟨t1, u1, y1, e1, d1, r1⟩ := fld_read f1 (by omega) (by omega) hr
      obtain ⟨t2, u2, y2, e2, d2, r2⟩ := fld_read f2 (by omega) (by omega) hr
      obtain ⟨t3, u3, y3, e3, d3, r3⟩ := fld_read f3 (by omega) (by omega) hr
      obtain ⟨t4, u4, y4, e4, d4, r4⟩ := fld_read f4 (by omega) (by omega) hr
      obtain ⟨t5, u5, y5, e5, d5, r5⟩ := fld_read f5 (by omega) (by omega) hr
      obtain ⟨t6, u6, y6, e6, d6, r6⟩ := fld_read f6 (by omega) (by omega) hr
      rw [isI64_eq d0] at e0
      rw [isStr_eq d1] at e1
      rw [isStr_eq d2] at e2
      rw [isStr_eq d3] at e3
      rw [isI64_eq d4] at e4
      rw [isU8_eq d5] at e5
      obtain ⟨z0, c0, _, w0⟩ := DataW.trod_int e0 r0
      obtain ⟨s1, c1, _, w1⟩ := DataW.trod_string e1 r1
      obtain ⟨s2, c2, _, w2⟩ := DataW.trod_string e2 r2
      obtain ⟨s3, c3, _, w3⟩ := DataW.trod_string e3 r3
      obtain ⟨z4, c4, _, w4⟩ := DataW.trod_int e4 r4
      obtain ⟨z5, c5, _, w5⟩ := DataW.trod_int e5 r5
      have c6 : ∃ (a : Option Addr) (l c : Nat) (ps : List Int), cs[6] = .slice a l c ∧ RdC w.heap a (ps.map iv) ∧ ps.length = l ∧ l ≤ c ∧ c ≤ maxLen := by
        unfold isInts at d6
        split at d6
        · rename_i e
          simp only [Bool.and_eq_true, beq_iff_eq] at d6
          obtain ⟨d7, hc7⟩ := d6
          cases he : P.underlying e with
          | none => rw [he] at d7; cases d7
          | some u7 =>
            rw [he] at d7
            rw [isI64_eq d7] at he
            exact ints_read e6 he hc7 r6
        · cases d6
      obtain ⟨a, l, c, ps, c6, hrd, hpl, hlc, hcm⟩ := c6
      simp only [List.cons.injEq, and_true] at c0 c1 c2 c3 c4 c5
      refine ⟨⟨z0, s1, s2, s3, z4, z5, a, l, c⟩, ?_, ?_⟩
      · apply List.ext_getElem
        · exact hlen
        · intro i h1 h2
          have : i = 0 ∨ i = 1 ∨ i = 2 ∨ i = 3 ∨ i = 4 ∨ i = 5 ∨ i = 6 := by omega
          rcases this with rfl | rfl | rfl | rfl | rfl | rfl | rfl
          · exact c0
          · exact c1
          · exact c2
          · exact c3
          · exact c4
          · exact c5
          · exact c6
      · simp only [Lit.wf, Bool.and_eq_true, decide_eq_true_eq] at w0 w4 w5
        exact ⟨⟨w0.1, w0.2⟩, ⟨w4.1, w4.2⟩, ⟨w5.1, by have := w5.2; exact Int.lt_of_le_of_lt this (by decide)⟩, w1, w2, w3, ps, hrd, hpl, hlc, hcm⟩
    | _ => cases hA
end

end Go.Proofs.YticjjdhaikbdaaaGreat

namespace Go.Proofs.YticjjdhaikbdaaaGreat
open Go Go.RowKit Go.ChangeShapes Go.WideShapes Go.ChangeAt
set_option linter.unusedVariables false
set_option linter.unusedSimpArgs false

/-- Acts that can be read from address a on. -/
def ActsIn (h : Heap) (a : Option Addr) (acts : List ActV) : Prop :=
  ∀ (i : Nat) (x : ActV), acts[i]? = some x → ActOk h x ∧ ∃ b, a = some b ∧ ∀ (j : Nat) (v : Value), x.cells[j]? = some v → cellAt h (b.add (i * 7 + j)) = some v
theorem choose_list {α : Type} {P : Nat → α → Prop} : ∀ (n : Nat), (∀ i, i < n → ∃ x, P i x) → ∃ xs : List α, xs.length = n ∧ ∀ (i : Nat) (x : α), xs[i]? = some x → P i x
  | 0, _ => ⟨[], rfl, fun i x h => by simp at h⟩
  | n + 1, h => by
    obtain ⟨xs, hl, hx⟩ := choose_list n fun i hi => h i (by omega)
    obtain ⟨y, hy⟩ := h n (by omega)
    refine ⟨xs ++ [y], by simp [hl], fun i x hi => ?_⟩
    rw [List.getElem?_append] at hi
    split at hi
    · exact hx i x hi
    · rename_i hlt
      have : i = n := by
        have := (List.getElem?_eq_some_iff.1 hi).1
        simp at this
        omega
      subst this
      simp [hl] at hi
      rw [← hi]
      exact hy
theorem actTy_cells {P : Program} {t : TypeId} (h : actTy P t = true) : P.cellsOf t = 7 := by
  unfold actTy at h
  split at h
  · simp only [Bool.and_eq_true, beq_iff_eq] at h
    exact h.1.2
  · cases h
theorem ActsIn.at {h : Heap} {a : Option Addr} {acts : List ActV} {l i : Nat} {x : ActV} {K : Addr → Prop} (H : ActsIn h a acts) (hl : acts.length = l) (hi : acts[i]? = some x)
    (hK : ∀ b, a = some b → (∀ (j : Nat) (v : Value), x.cells[j]? = some v → cellAt h ((b.add (i * 7)).add j) = some v) → K (b.add (i * 7))) : IdxA a l (i : Int) 7 K := by
  obtain ⟨_, b, hb, hc⟩ := H i x hi
  have := (List.getElem?_eq_some_iff.1 hi).1
  refine ⟨b, hb, by omega, by omega, ?_⟩
  rw [Int.toNat_natCast]
  exact hK b hb fun j v hj => by rw [addr_add_add]; exact hc j v hj
theorem ActsIn.old {h h' : Heap} {F : List HProp} {a : Option Addr} {acts : List ActV} (H : ActsIn h a acts) (hs : sat (old h :: F) h') : ActsIn h' a acts := by
  intro i x hi
  obtain ⟨h1, b, hb, hc⟩ := H i x hi
  obtain ⟨ps, hr, h2, h3⟩ := h1.picks
  exact ⟨⟨h1.k, h1.n, h1.turn, h1.dir, h1.name, h1.b, ps, hr.old hs, h2, h3⟩, b, hb, fun j v hj => hs.oldCell (hc j v hj)⟩
/-- What is not heavy. -/
structure Light (x : ActV) : Prop where
  b : x.b.size ≤ 20000
  dir : x.dir.size ≤ 100
  name : x.name.size ≤ 100
  picks : x.pl ≤ 20000
theorem F12_spec {h : Heap} {a : Option Addr} {l c : Nat} {acts : List ActV} (H : ActsIn h a acts) (hl : acts.length = l) (hm : l ≤ maxLen) :
    CallsH Tryz.prog 12 [.slice a l c] h fun v h' => h' = h ∧ ∃ z, v = .bool z ∧ (z = false → l ≤ 20000 ∧ ∀ x ∈ acts, Light x) := by
  apply F12_ok
  unfold F12
  refine ⟨fun st hh => hh = h ∧ ∃ (n i : Nat), st = ((n : Int), (i : Int)) ∧ i ≤ l ∧ i ≤ n ∧ n ≤ 20000 ∧ ∀ (j : Nat) (x : ActV), j < i → acts[j]? = some x → Light x, fun st _ => ((l : Int) - st.2).toNat, ⟨rfl, 0, 0, rfl, Nat.zero_le _, Nat.zero_le _, Nat.zero_le _, fun j x hj => by omega⟩, ?_⟩
  rintro st h1 ⟨rfl, n, i, rfl, hi, hin, hn, hlight⟩
  by_cases hlt : i < l
  · rw [decide_eq_true (show ((i : Int) < (l : Int)) by omega), cond_true]
    obtain ⟨x, hx⟩ : ∃ x, acts[i]? = some x := ⟨_, List.getElem?_eq_getElem (by omega)⟩
    have ok := (H i x hx).1
    obtain ⟨ps, _, _, hpl, hpm⟩ := ok.picks
    refine H.at hl hx fun b hb hc => ⟨_, hc 3 _ rfl, ?_⟩
    show DS (.string x.b) _
    rw [DS_string]
    refine H.at hl hx fun b hb hc => ⟨_, hc 6 _ rfl, ?_⟩
    show DSl (.slice x.pa x.pl x.pc) _
    rw [DSl_slice]
    have m1 : (if (20000 : Int) < (x.b.size : Int) then 20000 else (x.b.size : Int)) = ((min x.b.size 20000 : Nat) : Int) := by split <;> omega
    have m2 : (if (20000 : Int) < (x.pl : Int) then 20000 else (x.pl : Int)) = ((min x.pl 20000 : Nat) : Int) := by split <;> omega
    have m3 : IntKind.wrap .i64 (IntKind.wrap .i64 (IntKind.wrap .i64 ((n : Int) + 1) + ((min x.b.size 20000 : Nat) : Int)) + ((min x.pl 20000 : Nat) : Int)) = ((n + 1 + min x.b.size 20000 + min x.pl 20000 : Nat) : Int) := by
      rw [wrap64_succ (by omega), ← Int.natCast_add, wrap64_nat (by omega), ← Int.natCast_add, wrap64_nat (by omega)]
    simp only [m1, m2, m3]
    by_cases hbig : n + 1 + min x.b.size 20000 + min x.pl 20000 > 20000
    · rw [decide_eq_true (by omega), cond_true]
      exact ⟨by trivial, true, rfl, fun e => by cases e⟩
    rw [decide_eq_false (by omega), cond_false]
    refine H.at hl hx fun b hb hc => ⟨_, hc 1 _ rfl, ?_⟩
    show DS (.string x.dir) _
    rw [DS_string]
    by_cases hd : x.dir.size > 100
    · rw [decide_eq_true (by omega), cond_true]
      exact ⟨by trivial, true, rfl, fun e => by cases e⟩
    rw [decide_eq_false (by omega), cond_false]
    refine H.at hl hx fun b hb hc => ⟨_, hc 2 _ rfl, ?_⟩
    show DS (.string x.name) _
    rw [DS_string]
    by_cases hnm : x.name.size > 100
    · rw [decide_eq_true (by omega), cond_true]
      exact ⟨by trivial, true, rfl, fun e => by cases e⟩
    rw [decide_eq_false (by omega), cond_false]
    refine ⟨⟨by trivial, n + 1 + min x.b.size 20000 + min x.pl 20000, i + 1, ?_, by omega, by omega, by omega, fun j y hj hy => ?_⟩, ?_⟩
    · rw [wrap64_succ (by have : maxLen = 9223372036854775807 := by decide
                          omega)]
    · by_cases hji : j = i
      · subst hji
        rw [hx] at hy
        cases hy
        exact ⟨by omega, by omega, by omega, by omega⟩
      · exact hlight j y (by omega) hy
    · have hml : maxLen = 9223372036854775807 := by decide
      show ((l : Int) - IntKind.wrap .i64 ((i : Int) + 1)).toNat < ((l : Int) - (i : Int)).toNat
      rw [wrap64_succ (by omega)]
      omega
  · rw [decide_eq_false (by omega), cond_false]
    have ei : i = l := by omega
    refine ⟨by trivial, false, rfl, fun _ => ⟨by omega, fun x hx => ?_⟩⟩
    obtain ⟨j, hj⟩ := List.getElem?_of_mem hx
    exact hlight j x (by have := (List.getElem?_eq_some_iff.1 hj).1; omega) hj

end Go.Proofs.YticjjdhaikbdaaaGreat
