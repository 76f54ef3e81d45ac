/- Lists of lists of rows that came in (seat K). -/
import Derived.Test.YtibdiikcigokjaaGreatDoorKsVdX
import Derived.Deep.Slices
import Derived.Deep.Strs
import Derived.ChangeSlices
import Derived.ChangeArms
import Derived.ChangeSame
import Derived.WideShapes
import Derived.ProofKit
import Derived.OpenShut
import Derived.ChangeOld
import Derived.Handed
import Derived.SizedLaws
import Derived.Shelf.Vars
namespace Go.Proofs.YtibdiikcigokjaaGreatDoor
open Go Go.RowKit Go.ChangeShapes Go.WideShapes Go.ChangeAt
set_option linter.unusedVariables false
set_option linter.unusedSimpArgs false
def strT (P : Program) (t : TypeId) : Bool := match P.underlying t with
 | some .string => true
 | _ => false
def i64T (P : Program) (t : TypeId) : Bool := match P.underlying t with
 | some (.int .i64) => true
 | _ => false
theorem strT_eq {P : Program} {t : TypeId} (h : strT P t = true) : P.underlying t = some .string := by
 unfold strT at h
 split at h
 · assumption
 · cases h
theorem i64T_eq {P : Program} {t : TypeId} (h : i64T P t = true) : P.underlying t = some (.int .i64) := by
 unfold i64T at h
 split at h
 · assumption
 · cases h
def valTy (P : Program) (e : TypeId) : Bool := match P.underlying e with
 | some (.struct fs) => (match fs.toList with
   | [f0, f1, f2] => (f0.offset == 0 && (f1.offset == 1 && f2.offset == 2)) && ((P.cellsOf f0.type == 1 && (P.cellsOf f1.type == 1 && P.cellsOf f2.type == 1)) && ((i64T P f0.type && (i64T P f1.type && strT P f2.type)) && P.cellsOf e == 3))
   | _ => false)
 | _ => false
section
variable {H : Type} {enc : TypeId × Value → H} {P : Program} {w : World} {base : Nat} {spare : Nat → Bool} {held : Bool}
theorem val_read {e : TypeId} {n : Nat} {cs : List Value} {x : DataW H × List MemPlace} (hA : valTy P e = true) (h : DataW.trod enc P w base spare held n e cs = some x) : ∃ v : Vl, cs = vlC v ∧ I64 v.n := by
 unfold valTy at hA
 split at hA
 · rename_i fs hu;split at hA
   · rename_i f0 f1 f2 hfs;simp only [Bool.and_eq_true, beq_iff_eq] at hA;obtain ⟨⟨o0, o1, o2⟩, ⟨c0, c1, c2⟩, ⟨s0, s1, s2⟩, c3⟩ := hA;have e1 : fs = #[f0, f1, f2] := Array.ext' (by simpa using hfs);subst e1;obtain ⟨y0, y1, y2, m, hx, hl, h0, h1, h2⟩ := Go.Deep.trod_struct3 hu h;rw [o0, c0, List.drop_zero] at h0;rw [o1, c1] at h1;rw [o2, c2] at h2;rw [c3] at hl
     match cs, hl with
     | [v0, v1, v2], _ =>
       obtain ⟨z0, e0, _, _⟩ := DataW.trod_int (i64T_eq s0) h0;obtain ⟨z1, e1, _, w1⟩ := DataW.trod_int (i64T_eq s1) h1;obtain ⟨z2, e2, _, _⟩ := DataW.trod_string (strT_eq s2) h2;simp only [List.take_succ_cons, List.take_zero, List.drop_succ_cons, List.drop_zero, List.cons.injEq, and_true] at e0 e1 e2;subst e0 e1 e2;refine ⟨⟨z0, z1, z2⟩, rfl, ?_⟩;simp only [Lit.wf, Bool.and_eq_true, decide_eq_true_eq] at w1;exact w1
   · cases hA
 · cases hA
theorem row_readV {t e : TypeId} {n : Nat} {v : Value} {x : DataW H × List MemPlace} (ht : P.underlying t = some (.slice e)) (hA : valTy P e = true) (hc : P.cellsOf e = 3) (h : DataW.trod enc P w base spare held n t [v] = some x) :
  ∃ r : List Vl, Rw r v w.heap ∧ r.length ≤ 9223372036854775807 ∧ ∀ y ∈ r, I64 y.n := by
 rcases Go.Deep.open_slice ht h with ⟨hcs, _⟩ | ⟨a, len, cap, m, k, D, Pl, hcs, _, hl, hm, hmm, hx, hel⟩
 · simp only [List.cons.injEq, and_true] at hcs;exact ⟨[], ⟨none, 0, hcs, rfl⟩, Nat.zero_le _, by simp⟩
 · simp only [List.cons.injEq, and_true] at hcs;rw [hc] at hel;have hlm : len ≤ m := by rw [hmm]; split <;> omega
   obtain ⟨r, hrl, hr⟩ := choose_list (P := fun i (y : Vl) => I64 y.n ∧ ∀ (j : Nat) (u : Value), (vlC y)[j]? = some u → cellAt w.heap (a.add (i * 3 + j)) = some u) len fun i hi => by
    obtain ⟨cs', h1, h2⟩ := hel i (by omega);obtain ⟨y, e1, hy⟩ := val_read hA h2;refine ⟨y, hy, fun j u hj => ?_⟩;obtain ⟨_, _, hcell⟩ := World.cells?_some h1;have hj3 : j < 3 := (List.getElem?_eq_some_iff.1 hj).1;have := hcell j hj3;rw [e1, hj, cell_world, addr_add_add] at this;exact this
   refine ⟨r, ⟨some a, cap, by rw [hrl]; exact hcs, ?_⟩, by unfold maxLen at hm; omega, fun y hy => ?_⟩
   · intro k u hv;have hk := (List.getElem?_eq_some_iff.1 hv).1;rw [flatC_length vlC_len] at hk;have hi : k / 3 < r.length := Nat.div_lt_of_lt_mul (by rw [Nat.mul_comm]; exact hk);obtain ⟨y, hy⟩ : ∃ y, r[k / 3]? = some y := ⟨_, List.getElem?_eq_getElem hi⟩
     have e : k / 3 * 3 + k % 3 = k := Nat.div_add_mod' k 3;have h1 := flatC_get vlC_len hy (Nat.mod_lt k (by decide));rw [e, hv] at h1;have h2 := (hr _ y hy).2 _ u h1.symm
     rwa [e] at h2
   · obtain ⟨i, hi⟩ := List.mem_iff_getElem?.1 hy;exact (hr i y hi).1
theorem rows_readV {t u e : TypeId} {n : Nat} {v : Value} {x : DataW H × List MemPlace} (ht : P.underlying t = some (.slice u)) (hu : P.underlying u = some (.slice e)) (hA : valTy P e = true) (hc : P.cellsOf e = 3) (hc1 : P.cellsOf u = 1) (h : DataW.trod enc P w base spare held n t [v] = some x) :
  ∃ (rs : List (List Vl)) (vs : List Value), Rss rs vs v w.heap ∧ ∀ r ∈ rs, r.length ≤ 9223372036854775807 ∧ ∀ y ∈ r, I64 y.n := by
 rcases Go.Deep.open_slice1 ht hc1 h with ⟨hcs, _⟩ | ⟨a, len, cap, m, k, V, D, Pl, hcs, _, hl, hm, hmm, hx, hel⟩
 · simp only [List.cons.injEq, and_true] at hcs;exact ⟨[], [], ⟨none, 0, hcs, rfl, rfl, fun i r u hr => by cases hr⟩, by simp⟩
 · simp only [List.cons.injEq, and_true] at hcs;have hlm : len ≤ m := by rw [hmm]; split <;> omega
   obtain ⟨q, hql, hq⟩ := choose_list (P := fun i (q : List Vl × Value) => (Rw q.1 q.2 w.heap ∧ q.1.length ≤ 9223372036854775807 ∧ ∀ y ∈ q.1, I64 y.n) ∧ cellAt w.heap (a.add i) = some q.2) len fun i hi => by
    obtain ⟨h1, h2⟩ := hel i (by omega);obtain ⟨r, g1, g2, g3⟩ := row_readV hu hA hc h2;exact ⟨(r, V i), ⟨g1, g2, g3⟩, by rw [← cell_world, h1]⟩
   refine ⟨q.map (·.1), q.map (·.2), ⟨some a, cap, by rw [List.length_map, hql]; exact hcs, fun j u hj => ?_, by rw [List.length_map, List.length_map], fun i r u hr hv => ?_⟩, fun r hr => ?_⟩
   · rw [List.getElem?_map] at hj
     cases hx : q[j]? with
     | none => rw [hx] at hj; cases hj
     | some y =>
       rw [hx] at hj;cases hj;exact (hq j y hx).2
   · rw [List.getElem?_map] at hr hv
     cases hx : q[i]? with
     | none => rw [hx] at hr; cases hr
     | some y =>
       rw [hx] at hr hv;cases hr;cases hv;exact (hq i y hx).1.1
   · obtain ⟨y, hy, rfl⟩ := List.mem_map.1 hr;obtain ⟨i, hi⟩ := List.mem_iff_getElem?.1 hy;exact (hq i y hi).1.2
theorem rowss_open {r : Reach} {b0 : Nat} {t s u e : TypeId} {v : Value} {d : DataW H} {p : List MemPlace} (ht : P.underlying t = some (.slice s)) (hs : P.underlying s = some (.slice u)) (hu : P.underlying u = some (.slice e)) (hA : valTy P e = true) (hc : P.cellsOf e = 3) (hc1 : P.cellsOf u = 1) (hc2 : P.cellsOf s = 1)
  (hv : Value.okWide P w r b0 t v) (h : DataW.Trod enc P w base spare held t v d p) :
  ∃ (a : Option Addr) (l c : Nat) (bss : List (List (List Vl))) (us : List Value), v = .slice a l c ∧ InRows w.heap a l bss us := by
 obtain ⟨a, l, c, rfl⟩ := okWide_slice ht hv
 obtain ⟨fuel, hf⟩ := h
 rcases Go.Deep.open_slice1 ht hc2 hf with ⟨hcs, _⟩ | ⟨a', len, cap, m, k, V, D, Pl, hcs, _, hl, hm, hmm, hx, hel⟩
 · simp [Value.cells] at hcs;obtain ⟨rfl, rfl, rfl⟩ := hcs;exact ⟨none, 0, 0, [], [], rfl, rfl, rfl, rfl, (fun i rs u h => by cases h), by simp⟩
 · simp [Value.cells] at hcs;obtain ⟨rfl, rfl, rfl⟩ := hcs;have hlm : l ≤ m := by rw [hmm]; split <;> omega
   obtain ⟨q, hql, hq⟩ := choose_list (P := fun i (q : List (List Vl) × Value) => ((∃ ws, Rss q.1 ws q.2 w.heap) ∧ ∀ r ∈ q.1, r.length ≤ 9223372036854775807 ∧ ∀ y ∈ r, I64 y.n) ∧ cellAt w.heap (a'.add i) = some q.2) l fun i hi => by
    obtain ⟨h1, h2⟩ := hel i (by omega);obtain ⟨rs, vs, g1, g2⟩ := rows_readV hs hu hA hc hc1 h2;exact ⟨(rs, V i), ⟨⟨vs, g1⟩, g2⟩, by rw [← cell_world, h1]⟩
   refine ⟨some a', l, c, q.map (·.1), q.map (·.2), rfl, fun j u hj => ?_, by rw [List.length_map, hql], by rw [List.length_map, hql], fun i rs u hr hv => ?_, fun rs hr => ?_⟩
   · rw [List.getElem?_map] at hj
     cases hx : q[j]? with
     | none => rw [hx] at hj; cases hj
     | some y =>
       rw [hx] at hj;cases hj;exact (hq j y hx).2
   · rw [List.getElem?_map] at hr hv
     cases hx : q[i]? with
     | none => rw [hx] at hr; cases hr
     | some y =>
       rw [hx] at hr hv;cases hr;cases hv;exact (hq i y hx).1.1
   · obtain ⟨y, hy, rfl⟩ := List.mem_map.1 hr;obtain ⟨i, hi⟩ := List.mem_iff_getElem?.1 hy;exact (hq i y hi).1.2
end
open Go
variable {H : Type} {enc : TypeId × Value → H}
theorem handed_listed_shaped {a : Assume} {C : Checked} {os : Os} {f : FuncId} {fn : Func} {s : ChangeSpec} {conds : List PathCond} {apart fresh handsOn again : Bool} {X : World → Array Value → Prop}
  (hX : ∀ (w w' : World) (args : Array Value), w.heap = w'.heap → X w args → X w' args) (own : ownKnob C.prog.godebug = none) (started : os.Started) (noInit : C.prog.inits.idxOf? f = none) (hfn : C.prog.funcs[f]? = some fn)
  (witness : ∃ (w : World) (tape : Tape) (i : Input), w.os = os ∧ (w.forCall tape i).Shaped C.prog ∧ i.vars = [] ∧ Input.okWide C.prog (w.forCall tape i) .any w.heap.size f i ∧
   ((s.pre enc C.prog fn conds apart (w.forCall tape i).memory i.args ∧ X (w.forCall tape i).memory i.args) ∧ sizedMet enc C.prog fn (OpenSpec.ofChange s) apart (w.forCall tape i).memory i.args) ∧ a.holds C.prog (lone (Frame.enter C.prog f i.args .normal) [] (w.forCall tape i)))
  (contract : ∀ (W : World) (base : Nat) (args : Array Value) (ds gs : List (DataW H)) (before : List MemPlace), (∀ (j : Nat) t v, fn.params[j]? = some t → args[j]? = some v → Value.okWide C.prog W .any base t v) →
   DataW.Whole enc C.prog fn.params.toList s.vars apart W args.toList ds gs before → conds.all (PathCond.test C.prog ⟨fn.params.toList, ds, s.plain.varTypes C.prog, gs⟩) = true →
   (DataW.weightsEach C.prog (fn.params.toList ++ s.plain.varTypes C.prog) (ds ++ gs)).all (· ≤ reachBytes) = true → X W args → W.ShapedOpen C.prog →
   Calls C.prog f args W fun e W' => ∃ v, e = .returned v ∧ s.post enc C.prog fn apart fresh handsOn again W args v W') :
  ReturnsInHanded a C os f .any (fun w args => (s.pre enc C.prog fn conds apart w args ∧ X w args) ∧ sizedMet enc C.prog fn (OpenSpec.ofChange s) apart w args) (s.post enc C.prog fn apart fresh handsOn again) := by
 refine returnsInHanded_of_calls own started noInit witness ?_
 intro w tape i _ shp _ hok hpre _
 obtain ⟨_, _, _, g, hg, _, _, _, _, hval⟩ := hok
 obtain rfl : g = fn := Option.some.inj (hg.symm.trans hfn)
 obtain ⟨⟨⟨ds, gs, before, hw, hc⟩, hx⟩, hz⟩ := hpre
 refine (contract (w.forCall tape i) w.heap.size i.args ds gs before hval (DataW.Whole.of_heap (w' := w.forCall tape i) (by rfl) hw) hc (hz.weights hw) (hX _ _ _ (by rfl) hx) shp).mono fun e W' hh => ?_
 obtain ⟨v, rfl, hp⟩ := hh
 exact ChangeSpec.post_blind hp
theorem laidMetH_plain {P : Program} {l : List (String × DataW Unit)} {w : World} (h : (l.filter fun x => x.2.handleName?.isSome) = []) (m : laidMet P l w) : laidMetH P l w := by
 unfold laidMetH
 rw [h]
 exact m
theorem maxLen_there {W : World} (h : W.ShapedOpen Tryz.prog) : ∃ m, cellAt W.heap ⟨0, 0, none⟩ = some (.int .i64 m) := by
 obtain ⟨m, hm⟩ := cell_of_shapedOpen_int (g := 0) (t := 3) (zero := #[.int .i64 0]) h (of_decide_eq_true (by kernel_rfl)) (by kernel_rfl) rfl (by kernel_rfl) (by kernel_rfl) (by kernel_rfl)
 exact ⟨m, by rw [← cell_world]; exact hm⟩
end Go.Proofs.YtibdiikcigokjaaGreatDoor
