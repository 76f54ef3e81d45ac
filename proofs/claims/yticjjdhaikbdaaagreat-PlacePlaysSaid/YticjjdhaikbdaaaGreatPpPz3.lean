/- The document's Ready; acts behind numbers that came in (seat Z). -/
import Derived.Test.YticjjdhaikbdaaaGreatPpPz2
namespace Go.Proofs.YticjjdhaikbdaaaGreat
open Go Go.RowKit Go.ChangeShapes Go.WideShapes Go.ChangeAt
set_option linter.unusedVariables false
set_option linter.unusedSimpArgs false

section
variable {m : Nat} {A : AF.FS} {F : List HProp} {h : Heap} {dir name b : ByteArray}
/-- What a call of the document's that ends in a list of names comes to. -/
def NamesR (m : Nat) (r : AF.FS × Except Nat (List ByteArray)) (F : List HProp) (v : Value) (h' : Heap) : Prop :=
  (∃ (ks : List ByteArray) (a : Option Addr) (c : Nat), r.2 = .ok ks ∧ v = .tuple #[.slice a ks.length c, .int .i64 0] ∧ sat (ownS 9 1 a ks.length c (ks.map Value.string) :: refP m r.1 :: F) h') ∨
    (∃ e : Nat, r.2 = .error e ∧ e ≠ 0 ∧ v = .tuple #[.slice none 0 0, .int .i64 (e : Int)] ∧ sat (refP m r.1 :: F) h')
theorem tidyR {Q : Value → Heap → Prop} (W : A.WF) (hs : A.steps + 10000 < 1099511627776) (hm : A.files.length + 10000 < 1099511627776) (H : sat (refP m A :: F) h) (hQ : ∀ v h', NamesR m (A.tidy dir) F v h' → Q v h') :
    CallsH Tryz.prog 20 [ptrV m, .string dir] h fun r4 h_4 =>
    ∃ (x6 : Int), ∃ (x7 : Int), r4 = .tuple #[.int .i64 x6, .int .i64 x7] ∧
    (bif (x7 : Int) != 0 then
      Q (.tuple #[.slice none 0 0, .int .i64 x7]) h_4
    else
      CallsH Tryz.prog 61 [ptrV m, .string dir] h_4 fun r5 h_5 =>
      ∃ (x8a : Option Addr), ∃ (x8l : Nat), ∃ (x8c : Nat), ∃ (x9 : Int), r5 = .tuple #[.slice x8a x8l x8c, .int .i64 x9] ∧
      Q (.tuple #[.slice x8a x8l x8c, .int .i64 x9]) h_5) := by
  refine (F20_spec W hs hm H).mono ?_
  rintro v h1 ⟨rfl, he, H1⟩
  have W1 := (AF.clean_tame dir W).1
  cases hc : (A.clean dir).2 with
  | error e =>
    have e0 := he e hc
    refine ⟨0, (e : Int), rfl, ?_⟩
    rw [err_bne e0, cond_true]
    have et : A.tidy dir = ((A.clean dir).1, .error e) := by
      unfold AF.FS.tidy
      have : A.clean dir = ((A.clean dir).1, .error e) := by rw [← hc]
      rw [this]
    refine hQ _ _ ?_
    rw [et]
    exact .inr ⟨e, rfl, e0, rfl, H1⟩
  | ok n =>
    refine ⟨(n : Int), 0, rfl, ?_⟩
    rw [show ((0 : Int) != 0) = false from rfl, cond_false]
    have et : A.tidy dir = ((A.clean dir).1, (A.clean dir).1.list dir) := by
      unfold AF.FS.tidy
      have : A.clean dir = ((A.clean dir).1, .ok n) := by rw [← hc]
      rw [this]
    refine (F61_spec W1 H1).mono ?_
    rintro v h2 (⟨ks, a, c, hl, rfl, H2⟩ | ⟨e, hl, e0, rfl, H2⟩)
    · refine ⟨a, ks.length, c, 0, rfl, hQ _ _ ?_⟩
      rw [et]
      exact .inl ⟨ks, a, c, hl, rfl, H2⟩
    · refine ⟨none, 0, 0, (e : Int), rfl, hQ _ _ ?_⟩
      rw [et]
      exact .inr ⟨e, hl, e0, rfl, H2⟩
theorem F22_spec (W : A.WF) (hs : A.steps + 20000 < 1099511627776) (hm : A.files.length + 20000 < 1099511627776) (H : sat (refP m A :: F) h) :
    CallsH Tryz.prog 22 [ptrV m, .string dir] h (NamesR m (A.prep dir) F) := by
  apply F22_ok
  unfold F22
  refine (F61_spec W H).mono ?_
  rintro v h1 (⟨ks, a, c, hl, rfl, H1⟩ | ⟨e, hl, e0, rfl, H1⟩)
  · refine ⟨a, ks.length, c, 0, rfl, ?_⟩
    rw [show ((0 : Int) == 61) = false from rfl, cond_false]
    refine tidyR W (by omega) (by omega) H1.drop fun v h2 hn => ?_
    have ep : A.prep dir = A.tidy dir := by unfold AF.FS.prep; rw [hl]
    rw [ep]
    exact hn
  · refine ⟨none, 0, 0, (e : Int), rfl, ?_⟩
    by_cases h61 : e = 61
    · subst h61
      rw [show (((61 : Nat) : Int) == 61) = true from rfl, cond_true]
      have W2 := W.mkdir dir
      have G2 := AF.gr_mkdir A dir
      have g1 := G2.1
      have g2 := G2.2
      refine (F75_spec W (by omega) H1).mono ?_
      rintro v h2 ⟨rfl, H2⟩
      rw [DI_int]
      by_cases he : (A.mkdir dir).2 = 0
      · rw [zero_bne he, cond_false]
        have ep : A.prep dir = (A.mkdir dir).1.tidy dir := by
          unfold AF.FS.prep
          rw [hl]
          simp only [he, if_true]
        refine tidyR W2 (by omega) (by omega) H2 fun v h3 hn => ?_
        rw [ep]
        exact hn
      · rw [err_bne he, cond_true]
        have ep : A.prep dir = ((A.mkdir dir).1, .error (A.mkdir dir).2) := by
          unfold AF.FS.prep
          rw [hl]
          simp only [if_neg he]
        rw [ep]
        exact .inr ⟨_, rfl, he, rfl, H2⟩
    · have : ((e : Int) == 61) = false := by rw [beq_eq_false_iff_ne]; omega
      rw [this, cond_false]
      refine tidyR W (by omega) (by omega) H1 fun v h2 hn => ?_
      have ep : A.prep dir = A.tidy dir := by
        unfold AF.FS.prep
        rw [hl]
        split
        · rename_i he
          cases he
          exact absurd rfl h61
        · rfl
      rw [ep]
      exact hn
/-- The same names. -/
theorem F23_spec {ss : List ByteArray} {a b : Option Addr} {l c d : Nat} (hr : RdC h a (ss.map Value.string)) (hr2 : RdC h b (ss.map Value.string)) (hl : ss.length = l) (hm : l < 4611686018427387904) :
    CallsH Tryz.prog 23 [.slice a l c, .slice b l d] h fun v h' => v = .bool true ∧ h' = h := by
  apply F23_ok
  unfold F23
  rw [bneN, decide_eq_false (by simp), cond_false]
  refine ⟨fun st hh => hh = h ∧ ∃ i : Nat, st = (i : Int) ∧ i ≤ l, fun st _ => ((l : Int) - st).toNat, ⟨rfl, 0, rfl, Nat.zero_le _⟩, ?_⟩
  rintro st h1 ⟨rfl, i, rfl, hi⟩
  by_cases hlt : i < l
  · rw [decide_eq_true (show ((i : Int) < (l : Int)) by omega), cond_true]
    obtain ⟨k, hk⟩ : ∃ k, ss[i]? = some k := ⟨_, List.getElem?_eq_getElem (by omega)⟩
    refine strRead hr hl hk fun b2 hc => CStr hc (strRead hr2 hl hk fun b3 hc3 => CStr hc3 ?_)
    rw [strEq_dec, decide_eq_true rfl, Bool.not_true, cond_false, wrap64_succ (by omega)]
    exact ⟨⟨by trivial, i + 1, rfl, by omega⟩, by show ((l : Int) - ((i + 1 : Nat) : Int)).toNat < ((l : Int) - (i : Int)).toNat; omega⟩
  · rw [decide_eq_false (by omega), cond_false]
    exact ⟨rfl, by trivial⟩
end

/-! ### acts behind numbers -/
def fldAct (P : Program) (fs : Array Field) (i off : Nat) : Bool :=
  match fs[i]? with
  | some f => f.offset == off && actTy P f.type
  | none => false
/-- A struct of so many whole numbers, and an act. -/
def preTy (P : Program) (t : TypeId) (k : Nat) : Bool :=
  match P.underlying t with
  | some (.struct fs) => (fs.size == k + 1 && P.cellsOf t == k + 7) && ((List.range k).all (fun i => fldIs P fs i isI64) && fldAct P fs k k)
  | _ => false
/-- One that came in: its numbers, its act. -/
abbrev PAct := List Int × ActV
def PAct.cells (x : PAct) : List Value := x.1.map iv ++ x.2.cells
structure PActOk (h : Heap) (k : Nat) (x : PAct) : Prop where
  len : x.1.length = k
  nums : ∀ z ∈ x.1, -9223372036854775808 ≤ z ∧ z ≤ 9223372036854775807
  act : ActOk h x.2
def PActsIn (h : Heap) (a : Option Addr) (k : Nat) (acts : List PAct) : Prop :=
  ∀ (i : Nat) (x : PAct), acts[i]? = some x → PActOk h k x ∧ ∃ b, a = some b ∧ ∀ (j : Nat) (v : Value), x.cells[j]? = some v → cellAt h (b.add (i * (k + 7) + j)) = some v
section
variable {H : Type} {enc : TypeId × Value → H} {P : Program} {w : World} {base : Nat} {spare : Nat → Bool} {held : Bool}
theorem preTy_cells {t : TypeId} {k : Nat} (h : preTy P t k = true) : P.cellsOf t = k + 7 := by
  unfold preTy at h
  split at h
  · simp only [Bool.and_eq_true, beq_iff_eq] at h
    exact h.1.2
  · cases h
theorem fld_act {fs : Array Field} {i off n : Nat} {cs : List Value} {xs : List (DataW H × List MemPlace)} (hf : fldAct P fs i off = true) (hx : i < xs.length)
    (hr : ∀ (i : Nat) (f : Field), fs[i]? = some f → DataW.trod enc P w base spare held n f.type ((cs.drop f.offset).take (P.cellsOf f.type)) = xs[i]?) :
    ∃ v : ActV, (cs.drop off).take 7 = v.cells ∧ ActOk w.heap v := by
  unfold fldAct at hf
  cases hi : fs[i]? with
  | none => rw [hi] at hf; cases hf
  | some f =>
    rw [hi] at hf
    simp only [Bool.and_eq_true, beq_iff_eq] at hf
    have := hr i f hi
    rw [hf.1, actTy_cells hf.2, List.getElem?_eq_getElem hx] at this
    exact act_read hf.2 this
theorem pre_read {t : TypeId} {fuel k : Nat} {cs : List Value} {x : DataW H × List MemPlace} (hA : preTy P t k = true) (h : DataW.trod enc P w base spare held fuel t cs = some x) : ∃ v : PAct, cs = v.cells ∧ PActOk w.heap k v := by
  unfold preTy at hA
  cases hu : P.underlying t with
  | none => rw [hu] at hA; cases hA
  | some u =>
    rw [hu] at hA
    cases u with
    | struct fs =>
      simp only [Bool.and_eq_true, beq_iff_eq] at hA
      obtain ⟨⟨hsz, hC⟩, hints, hact⟩ := hA
      obtain ⟨xs, n, _, _, hlen, hxl, hr⟩ := DataW.trod_struct hu h
      rw [hC] at hlen
      rw [hsz] at hxl
      obtain ⟨x, hx, hok⟩ := fld_act hact (by omega) hr
      have each : ∀ i, i < k → ∃ z : Int, cs[i]? = some (iv z) ∧ -9223372036854775808 ≤ z ∧ z ≤ 9223372036854775807 := by
        intro i hi
        have hf := (List.all_eq_true.1 hints) i (List.mem_range.2 hi)
        obtain ⟨t0, u0, y0, e0, d0, r0⟩ := fld_read hf (by omega) (by omega) hr
        rw [isI64_eq d0] at e0
        obtain ⟨z0, c0, _, w0⟩ := DataW.trod_int e0 r0
        simp only [List.cons.injEq, and_true] at c0
        simp only [Lit.wf, Bool.and_eq_true, decide_eq_true_eq] at w0
        exact ⟨z0, by rw [List.getElem?_eq_getElem (by omega), c0]; rfl, w0.1, w0.2⟩
      obtain ⟨zs, hzl, hz⟩ := choose_list (P := fun i (z : Int) => cs[i]? = some (iv z) ∧ -9223372036854775808 ≤ z ∧ z ≤ 9223372036854775807) k each
      refine ⟨(zs, x), ?_, hzl, fun z hm => ?_, hok⟩
      · have h1 : cs.take k = zs.map iv := by
          apply List.ext_getElem?
          intro j
          rw [List.getElem?_take, List.getElem?_map]
          by_cases hj : j < k
          · rw [if_pos hj]
            have := hz j zs[j] (List.getElem?_eq_getElem (by omega))
            rw [this.1, List.getElem?_eq_getElem (by omega)]
            rfl
          · rw [if_neg hj, List.getElem?_eq_none (by omega)]
            rfl
        have h2 : cs.drop k = x.cells := by
          rw [← hx, List.take_of_length_le (by rw [List.length_drop]; omega)]
        unfold PAct.cells
        rw [← h1, ← h2, List.take_append_drop]
      · obtain ⟨j, hj⟩ := List.getElem?_of_mem hm
        exact (hz j z hj).2
    | _ => cases hA
theorem pacts_open {r : Reach} {b0 k : Nat} {t e : TypeId} {v : Value} {d : DataW H} {p : List MemPlace}
    (ht : P.underlying t = some (.slice e)) (hA : preTy P e k = true) (hv : Value.okWide P w r b0 t v) (h : DataW.Trod enc P w base spare held t v d p) :
    ∃ (a : Option Addr) (l c : Nat) (acts : List PAct), v = .slice a l c ∧ acts.length = l ∧ l ≤ c ∧ c ≤ maxLen ∧ PActsIn w.heap a k acts := by
  obtain ⟨a, l, c, rfl⟩ := okWide_slice ht hv
  obtain ⟨fuel, hf⟩ := h
  rcases Go.Deep.open_slice ht hf with ⟨hcs, _⟩ | ⟨a', len, cap, m, n, D, Pl, hcs, hb, hl, hm, hmm, _, hel⟩
  · simp [Value.cells] at hcs
    obtain ⟨rfl, rfl, rfl⟩ := hcs
    exact ⟨none, 0, 0, [], rfl, rfl, Nat.le_refl _, Nat.zero_le _, fun i x hx => by simp at hx⟩
  · simp [Value.cells] at hcs
    obtain ⟨rfl, rfl, rfl⟩ := hcs
    have hC := preTy_cells hA
    rw [hC] at hel
    have hlm : l ≤ m := by
      rw [hmm]
      split <;> omega
    obtain ⟨acts, hal, hac⟩ := choose_list (P := fun i (x : PAct) => PActOk w.heap k x ∧ ∀ (j : Nat) (v : Value), x.cells[j]? = some v → cellAt w.heap (a'.add (i * (k + 7) + j)) = some v) l fun i hi => by
      obtain ⟨cs', hc1, hc2⟩ := hel i (by omega)
      obtain ⟨x, hx, hok⟩ := pre_read hA hc2
      refine ⟨x, hok, fun j v hj => ?_⟩
      obtain ⟨_, _, hcell⟩ := World.cells?_some hc1
      have hj7 : j < k + 7 := by
        have := (List.getElem?_eq_some_iff.1 hj).1
        have hl := hok.len
        have h7 : x.2.cells.length = 7 := rfl
        unfold PAct.cells at this
        rw [List.length_append, List.length_map, hl, h7] at this
        exact this
      have := hcell j hj7
      rw [hx, hj, cell_world, addr_add_add] at this
      exact this
    refine ⟨some a', l, c, acts, rfl, hal, hl, hm, fun i x hi => ?_⟩
    obtain ⟨h1, h2⟩ := hac i x hi
    exact ⟨h1, a', rfl, h2⟩
end
theorem PActsIn.at {h : Heap} {a : Option Addr} {k : Nat} {acts : List PAct} {l i : Nat} {x : PAct} {K : Addr → Prop} (H : PActsIn h a k acts) (hl : acts.length = l) (hi : acts[i]? = some x)
    (hK : ∀ b, a = some b → (∀ (j : Nat) (v : Value), x.cells[j]? = some v → cellAt h ((b.add (i * (k + 7))).add j) = some v) → K (b.add (i * (k + 7)))) : IdxA a l (i : Int) (k + 7) K := by
  obtain ⟨_, b, hb, hc⟩ := H i x hi
  have := (List.getElem?_eq_some_iff.1 hi).1
  refine ⟨b, hb, by omega, by omega, ?_⟩
  rw [Int.toNat_natCast]
  exact hK b hb fun j v hj => by rw [addr_add_add]; exact hc j v hj
theorem PActsIn.old {h h' : Heap} {F : List HProp} {a : Option Addr} {k : Nat} {acts : List PAct} (H : PActsIn h a k acts) (hs : sat (old h :: F) h') : PActsIn h' a k acts := by
  intro i x hi
  obtain ⟨h1, b, hb, hc⟩ := H i x hi
  obtain ⟨ps, hr, h2, h3⟩ := h1.act.picks
  exact ⟨⟨h1.len, h1.nums, ⟨h1.act.k, h1.act.n, h1.act.turn, h1.act.dir, h1.act.name, h1.act.b, ps, hr.old hs, h2, h3⟩⟩, b, hb, fun j v hj => hs.oldCell (hc j v hj)⟩

end Go.Proofs.YticjjdhaikbdaaaGreat
