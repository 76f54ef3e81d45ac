/- Lists of lists of pairs that came in (seat S). -/
import Derived.Test.YtibdiikcigokjaaGreatSkStG
import Derived.Deep.Slices
import Derived.ChangeSlices
import Derived.ChangeArms
import Derived.ChangeSame
import Derived.WideShapes
import Derived.ProofKit
import Derived.OpenShut
import Derived.ChangeOld
import Derived.SizedLaws
namespace Go.Proofs.YtibdiikcigokjaaGreat
open Go Go.RowKit Go.ChangeShapes Go.WideShapes Go.ChangeAt
set_option linter.unusedVariables false
set_option linter.unusedSimpArgs false

def strT (P : Program) (t : TypeId) : Bool := match P.underlying t with
  | some .string => true
  | _ => false
def pairTy (P : Program) (e : TypeId) : Bool := match P.underlying e with
  | some (.struct fs) => (match fs.toList with
    | [f0, f1] => (f0.offset == 0 && f1.offset == 1) && ((P.cellsOf f0.type == 1 && P.cellsOf f1.type == 1) && ((strT P f0.type && strT P f1.type) && P.cellsOf e == 2))
    | _ => false)
  | _ => false
theorem strT_eq {P : Program} {t : TypeId} (h : strT P t = true) : P.underlying t = some .string := by
  unfold strT at h
  split at h
  · assumption
  · cases h
theorem rdc_flat {α : Type} {f : α → List Value} {sz : Nat} (hf : ∀ x, (f x).length = sz) (hp : 0 < sz) {h : Heap} {a : Addr} {xs : List α} (hx : ∀ (i : Nat) (x : α), xs[i]? = some x → ∀ (j : Nat) (v : Value), (f x)[j]? = some v → cellAt h (a.add (i * sz + j)) = some v) : RdC h (some a) (xs.flatMap f) := by
  intro k v hv
  have hk := (List.getElem?_eq_some_iff.1 hv).1
  rw [flatC_length hf] at hk
  have hi : k / sz < xs.length := Nat.div_lt_of_lt_mul (by rw [Nat.mul_comm]; exact hk)
  have hj : k % sz < sz := Nat.mod_lt _ hp
  have e : k / sz * sz + k % sz = k := Nat.div_add_mod' k sz
  obtain ⟨x, hxx⟩ : ∃ x, xs[k / sz]? = some x := ⟨_, List.getElem?_eq_getElem hi⟩
  have h1 := flatC_get hf hxx hj
  rw [e, hv] at h1
  have h2 := hx _ x hxx _ v h1.symm
  rwa [e] at h2
theorem weightsAll_mem {H : Type} {P : Program} {e : TypeId} : ∀ {l : List (DataW H)} {d : DataW H}, d ∈ l → ∀ n ∈ d.weights P e, n ∈ DataW.weightsAll P e l
  | [], _, h, _, _ => by cases h
  | x :: l, d, h, n, hn => by
    unfold DataW.weightsAll
    rcases List.mem_cons.1 h with rfl | h
    · exact List.mem_append.2 (.inl hn)
    · exact List.mem_append.2 (.inr (weightsAll_mem h n hn))
section
variable {H : Type} {enc : TypeId × Value → H} {P : Program} {w : World} {base : Nat} {spare : Nat → Bool} {held : Bool}
theorem pair_read {e : TypeId} {n : Nat} {cs : List Value} {d : DataW H} {pl : List MemPlace} (hA : pairTy P e = true) (h : DataW.trod enc P w base spare held n e cs = some (d, pl)) (hw : ∀ n ∈ d.weights P e, n ≤ reachBytes) :
    ∃ s0 s1 : ByteArray, cs = [.string s0, .string s1] ∧ s0.size ≤ 140737488355328 ∧ s1.size ≤ 140737488355328 := by
  unfold pairTy at hA
  split at hA
  · rename_i fs hu
    split at hA
    · rename_i f0 f1 hfs
      simp only [Bool.and_eq_true, beq_iff_eq] at hA
      obtain ⟨⟨o0, o1⟩, ⟨c0, c1⟩, ⟨s0, s1⟩, c2⟩ := hA
      have e1 : fs = #[f0, f1] := Array.ext' (by simpa using hfs)
      subst e1
      obtain ⟨y0, y1, m, hx, hl, h0, h1⟩ := trod_struct2 hu h
      rw [o0, c0, List.drop_zero] at h0
      rw [o1, c1] at h1
      rw [c2] at hl
      match cs, hl with
      | [v0, v1], _ =>
        obtain ⟨z0, e0, x0, _⟩ := DataW.trod_string (strT_eq s0) h0
        obtain ⟨z1, e1, x1, _⟩ := DataW.trod_string (strT_eq s1) h1
        simp only [List.take_succ_cons, List.take_zero, List.drop_succ_cons, List.drop_zero, List.cons.injEq, and_true] at e0 e1
        subst e0 e1
        have hd : d = .agg [y0.1, y1.1] := congrArg Prod.fst hx
        have w0 : (z0.data.toList).length ∈ d.weights P e := by
          rw [hd, x0, x1]
          simp [DataW.weights, hu, DataW.weightsEach]
        have w1 : (z1.data.toList).length ∈ d.weights P e := by
          rw [hd, x0, x1]
          simp [DataW.weights, hu, DataW.weightsEach]
        have r0 := hw _ w0
        have r1 := hw _ w1
        have e2 : z0.data.toList.length = z0.size := by rw [Array.length_toList]; rfl
        have e3 : z1.data.toList.length = z1.size := by rw [Array.length_toList]; rfl
        unfold reachBytes at r0 r1
        exact ⟨z0, z1, rfl, by omega, by omega⟩
    · cases hA
  · cases hA
theorem prs_read {t e : TypeId} {n : Nat} {v : Value} {d : DataW H} {pl : List MemPlace} (ht : P.underlying t = some (.slice e)) (hA : pairTy P e = true) (hc : P.cellsOf e = 2) (h : DataW.trod enc P w base spare held n t [v] = some (d, pl)) (hw : ∀ n ∈ d.weights P t, n ≤ reachBytes) :
    ∃ q : PSl, v = q.v ∧ PIn w.heap q := by
  rcases Go.Deep.open_slice ht h with ⟨hcs, _⟩ | ⟨a, len, cap, m, k, D, Pl, hcs, _, hl, _, hmm, hx, hel⟩
  · simp only [List.cons.injEq, and_true] at hcs
    exact ⟨⟨none, 0, 0, []⟩, hcs, rfl, rfl, by simp⟩
  · simp only [List.cons.injEq, and_true] at hcs
    rw [hc] at hel
    have hd : d = .slice ((List.range len).map D) ((List.range (m - len)).map fun j => D (len + j)) := congrArg Prod.fst hx
    have hlm : len ≤ m := by rw [hmm]; split <;> omega
    have hwi : ∀ i, i < len → ∀ n ∈ (D i).weights P e, n ≤ reachBytes := fun i hi n hn => hw n (by
      rw [hd]
      simp only [DataW.weights, ht]
      refine List.mem_cons_of_mem _ (List.mem_append.2 (.inl (weightsAll_mem (List.mem_map.2 ⟨i, List.mem_range.2 hi, rfl⟩) n hn)))) 
    obtain ⟨ps, hpl, hp⟩ := choose_list (P := fun i (p : ByteArray × ByteArray) => (p.1.size ≤ 140737488355328 ∧ p.2.size ≤ 140737488355328) ∧ ∀ (j : Nat) (v : Value), (pairC p)[j]? = some v → cellAt w.heap (a.add (i * 2 + j)) = some v) len fun i hi => by
      obtain ⟨cs', h1, h2⟩ := hel i (by omega)
      obtain ⟨s0, s1, e1, z0, z1⟩ := pair_read hA h2 (hwi i hi)
      refine ⟨(s0, s1), ⟨z0, z1⟩, fun j v hj => ?_⟩
      obtain ⟨_, _, hcell⟩ := World.cells?_some h1
      have hj2 : j < 2 := (List.getElem?_eq_some_iff.1 hj).1
      have := hcell j hj2
      rw [e1, cell_world, addr_add_add] at this
      rw [this]
      exact hj
    refine ⟨⟨some a, len, cap, ps⟩, hcs, rdc_flat (sz := 2) (fun _ => rfl) (by decide) fun i x hi => (hp i x hi).2, hpl, fun p hpm => ?_⟩
    obtain ⟨i, hi⟩ := List.mem_iff_getElem?.1 hpm
    exact (hp i p hi).1
theorem pss_read {r : Reach} {b0 : Nat} {t u e : TypeId} {v : Value} {d : DataW H} {p : List MemPlace} (ht : P.underlying t = some (.slice u)) (hu : P.underlying u = some (.slice e)) (hA : pairTy P e = true) (hc : P.cellsOf e = 2) (hc1 : P.cellsOf u = 1)
    (hv : Value.okWide P w r b0 t v) (h : DataW.Trod enc P w base spare held t v d p) (hw : ∀ n ∈ d.weights P t, n ≤ reachBytes) :
    ∃ (a : Option Addr) (l c : Nat) (ss : List PSl), v = .slice a l c ∧ ss.length = l ∧ RdC w.heap a (ss.map PSl.v) ∧ ∀ q ∈ ss, PIn w.heap q := by
  obtain ⟨a, l, c, rfl⟩ := okWide_slice ht hv
  obtain ⟨fuel, hf⟩ := h
  rcases Go.Deep.open_slice1 ht hc1 hf with ⟨hcs, _⟩ | ⟨a', len, cap, m, k, V, D, Pl, hcs, _, hl, _, hmm, hx, hel⟩
  · simp [Value.cells] at hcs
    obtain ⟨rfl, rfl, rfl⟩ := hcs
    exact ⟨none, 0, 0, [], rfl, rfl, rfl, by simp⟩
  · simp [Value.cells] at hcs
    obtain ⟨rfl, rfl, rfl⟩ := hcs
    have hd : d = .slice ((List.range l).map D) ((List.range (m - l)).map fun j => D (l + j)) := congrArg Prod.fst hx
    have hlm : l ≤ m := by rw [hmm]; split <;> omega
    have hwi : ∀ i, i < l → ∀ n ∈ (D i).weights P u, n ≤ reachBytes := fun i hi n hn => hw n (by
      rw [hd]
      simp only [DataW.weights, ht]
      exact List.mem_cons_of_mem _ (List.mem_append.2 (.inl (weightsAll_mem (List.mem_map.2 ⟨i, List.mem_range.2 hi, rfl⟩) n hn))))
    obtain ⟨ss, hsl, hs⟩ := choose_list (P := fun i (q : PSl) => PIn w.heap q ∧ cellAt w.heap (a'.add i) = some q.v) l fun i hi => by
      obtain ⟨h1, h2⟩ := hel i (by omega)
      obtain ⟨q, e1, hq⟩ := prs_read hu hA hc h2 (hwi i hi)
      exact ⟨q, hq, by rw [← cell_world, h1, e1]⟩
    refine ⟨some a', l, c, ss, rfl, hsl, fun j v hj => ?_, fun q hq => ?_⟩
    · rw [List.getElem?_map] at hj
      cases hq : ss[j]? with
      | none => rw [hq] at hj; cases hj
      | some q =>
        rw [hq] at hj
        cases hj
        exact (hs j q hq).2
    · obtain ⟨i, hi⟩ := List.mem_iff_getElem?.1 hq
      exact (hs i q hi).1
end
end Go.Proofs.YtibdiikcigokjaaGreat
