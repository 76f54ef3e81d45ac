/- Slices that are owned, slices that are read; append, and texts as lists of bytes. -/
import Derived.Test.YticjjdhaikbdaaaFw8
import Derived.Laws.AppendOwn
import Derived.Laws.IdiomStrings
import Derived.Laws.CopyRow
namespace Go.Proofs.Yticjjdhaikbdaaa
open Go Go.RowKit
set_option linter.unusedVariables false
set_option linter.unusedSimpArgs false

/-- The cells xs can be read from address a on. -/
def RdC (h : Heap) (a : Option Addr) (xs : List Value) : Prop :=
  match a with
  | none => xs = []
  | some a => ∀ j v, xs[j]? = some v → cellAt h (a.add j) = some v
def nofz (fr : Nat × Nat) (n : Nat) : Prop := ∀ i, i < n → ¬ (fr.1 ≤ i ∧ i < fr.2)
theorem nofz_zero (n : Nat) : nofz (0, 0) n := fun i _ h => by have := h.2; simp at this
theorem nofz_end (n : Nat) : nofz (n, n + 1) n := fun i hi h => by have := h.1; simp at this; omega
def ownS (e sz : Nat) (a : Option Addr) (l c : Nat) (xs : List Value) : HProp := fun r =>
  xs.length = l * sz ∧ ((a = none ∧ l = 0 ∧ c = 0 ∧ emp r) ∨
    ∃ b cells fr, a = some ⟨b, 0, none⟩ ∧ l ≤ c ∧ c ≤ maxLen ∧ cells.size = c * sz ∧ nofz fr cells.size ∧ cells.toList.take (l * sz) = xs ∧ pt b (.cells cells e fr) r)
section
variable {h : Heap} {F : List HProp} {e sz : Nat} {a : Option Addr} {l c : Nat} {xs : List Value}
theorem ownS_cases (H : sat (ownS e sz a l c xs :: F) h) : xs.length = l * sz ∧ ((a = none ∧ l = 0 ∧ c = 0 ∧ xs = [] ∧ sat F h) ∨
    ∃ b cells fr, a = some ⟨b, 0, none⟩ ∧ l ≤ c ∧ c ≤ maxLen ∧ cells.size = c * sz ∧ nofz fr cells.size ∧ cells.toList.take (l * sz) = xs ∧ sat (pt b (.cells cells e fr) :: F) h) := by
  obtain ⟨r, ⟨r1, r2, hd, rfl, ⟨hl, h1⟩, h2⟩, hs⟩ := H
  refine ⟨hl, ?_⟩
  rcases h1 with ⟨ha, hl0, hc0, he⟩ | ⟨b, cells, fr, ha, hlc, hcm, hcs, hfr, ht, hp⟩
  · refine .inl ⟨ha, hl0, hc0, ?_, r2, h2, fun b x hx => hs b x (union_right hd hx)⟩
    subst hl0
    exact List.eq_nil_of_length_eq_zero (by simpa using hl)
  · exact .inr ⟨b, cells, fr, ha, hlc, hcm, hcs, hfr, ht, _, ⟨r1, r2, hd, rfl, hp, h2⟩, hs⟩
theorem ownS_mk {b : Nat} {cells : Array Value} {fr : Nat × Nat} (H : sat (pt b (.cells cells e fr) :: F) h) (hfr : nofz fr cells.size) (hlc : l ≤ c) (hcm : c ≤ maxLen) (hcs : cells.size = c * sz) (ht : cells.toList.take (l * sz) = xs) :
    sat (ownS e sz (some ⟨b, 0, none⟩) l c xs :: F) h := by
  have hlen : xs.length = l * sz := by
    rw [← ht, List.length_take]
    have : l * sz ≤ c * sz := Nat.mul_le_mul_right _ hlc
    simp; omega
  exact H.imp fun r hr => ⟨hlen, .inr ⟨b, cells, fr, rfl, hlc, hcm, hcs, hfr, ht, hr⟩⟩
theorem ownS_nil (e sz : Nat) (H : sat F h) : sat (ownS e sz none 0 0 [] :: F) h := by
  obtain ⟨r, hr, hs⟩ := H
  obtain ⟨r1, r2, hd, e1, h1, h2⟩ := emp_sep hr
  exact ⟨r, ⟨r1, r2, hd, e1, ⟨by simp, .inl ⟨rfl, rfl, rfl, h1⟩⟩, h2⟩, hs⟩
theorem cell_of_pt {b : Nat} {cells : Array Value} {fr : Nat × Nat} (hb : h[b]? = some (.cells cells e fr)) (j : Nat) : cellAt h ((Addr.mk b 0 none).add j) = cells[j]? := by
  rw [addr_add, Nat.zero_add, cellAt_of hb]
theorem ownS_read (H : sat (ownS e sz a l c xs :: F) h) : RdC h a xs := by
  obtain ⟨hl, ⟨rfl, rfl, rfl, rfl, _⟩ | ⟨b, cells, fr, rfl, hlc, hcm, hcs, hfr, ht, H⟩⟩ := ownS_cases H
  · rfl
  · intro j v hv
    rw [cell_of_pt H.get, ← Array.getElem?_toList]
    rw [← ht, List.getElem?_take] at hv
    split at hv
    · exact hv
    · cases hv
theorem ownS_len (H : sat (ownS e sz a l c xs :: F) h) : xs.length = l * sz ∧ l ≤ c ∧ c ≤ maxLen := by
  obtain ⟨hl, ⟨rfl, rfl, rfl, rfl, _⟩ | ⟨b, cells, fr, rfl, hlc, hcm, hcs, hfr, ht, H⟩⟩ := ownS_cases H
  · exact ⟨hl, Nat.le_refl _, Nat.zero_le _⟩
  · exact ⟨hl, hlc, hcm⟩
end

theorem run_storeCells_fr (P : Program) (g o : Nat) (t : TypeId) (fz : Nat × Nat) : ∀ (vs : List Value) (i : Nat) (cur : Array Value) (w : World), w.heap[g]? = some (.cells cur t fz) → nofz fz cur.size → o + i + vs.length ≤ cur.size → (∀ v ∈ vs, v.oneCell' = true) →
    (storeCells ⟨g, o, none⟩ vs i).run P w = .ok () (w.setRow g (cur.toList.take (o + i) ++ vs ++ cur.toList.drop (o + i + vs.length)).toArray)
  | [], i, cur, w, hg, _, _, _ => by
    simp only [storeCells, List.append_nil, List.length_nil, Nat.add_zero, List.take_append_drop, Array.toArray_toList]
    rw [setRow_self w g cur t fz hg]
    rfl
  | v :: rest, i, cur, w, hg, hfz, hl, h1 => by
    have hi : o + i < cur.size := by simp at hl; omega
    have hadd : (⟨g, o, none⟩ : Addr).add i = ⟨g, o + i, none⟩ := addr_add _ _ _
    have hcell : w.cell? ⟨g, o + i, none⟩ = some cur[o + i] := by simp [World.cell?, hg, hi]
    have hfro : w.frozen? ⟨g, o + i, none⟩ = false := by
      have hz := hfz (o + i) hi
      obtain ⟨lo, hi'⟩ := fz
      simp only [World.frozen?, hg, Bool.and_eq_false_iff, decide_eq_false_iff_not]
      simp only at hz
      omega
    have hst : (store ((⟨g, o, none⟩ : Addr).add i) v).run P w = .ok () (w.setRow g (cur.setIfInBounds (o + i) v)) := by
      rw [hadd, run_store P w _ v _ (h1 v (by simp)), hcell]
      simp [hfro, setCell_eq_setRow w g (o + i) cur t fz v hg]
    have ih := run_storeCells_fr P g o t fz rest (i + 1) (cur.setIfInBounds (o + i) v) (w.setRow g (cur.setIfInBounds (o + i) v)) (setRow_heap w g cur _ t _ hg) (by simpa using hfz) (by simp at hl ⊢; omega) (fun x hx => h1 x (by simp [hx]))
    simp only [storeCells, Sem.run_bind, hst, Result.andThen_ok, ih, setRow_setRow]
    congr 3
    have e := list_seg_step cur.toList (o + i) v rest (by simp at hl ⊢; omega)
    simpa [Array.toList_setIfInBounds, Nat.add_assoc] using e
theorem run_storeCells_here {P : Program} (w : World) (b l sz c : Nat) (cells : Array Value) (e : TypeId) (fr : Nat × Nat) (news : List Value) (n : Nat) (hb : w.heap[b]? = some (.cells cells e fr)) (hfr : nofz fr cells.size) (hcs : cells.size = c * sz)
    (hl : news.length = n * sz) (hroom : l + n ≤ c) (h1 : ∀ u ∈ news, u.oneCell' = true) :
    (storeCells ((Addr.mk b 0 none).add (l * sz)) news).run P w = .ok () (w.setRow b (cells.toList.take (l * sz) ++ news ++ cells.toList.drop (l * sz + news.length)).toArray) := by
  rw [addr_add, Nat.zero_add]
  have := run_storeCells_fr P b (l * sz) e fr news 0 cells w hb hfr (by rw [hl, hcs, Nat.add_zero, ← Nat.add_mul]; exact Nat.mul_le_mul_right _ hroom) h1
  rw [Nat.add_zero] at this
  exact this

/-- What is appended: how many elements, which cells. -/
def SrcOf (P : Program) (h : Heap) (sz : Nat) (x : Value) (n : Nat) (ys : List Value) : Prop :=
  ys.length = n * sz ∧ ∀ w : World, w.heap = h → (Builtin.lenOf x).run P w = .ok n w ∧ (Builtin.firstCells sz n x).run P w = .ok ys.toArray w
theorem srcOf_slice {P : Program} {h : Heap} {sz : Nat} {a : Option Addr} {n c : Nat} {ys : List Value} (hr : RdC h a ys) (hl : ys.length = n * sz) : SrcOf P h sz (.slice a n c) n ys := by
  refine ⟨hl, fun w hw => ⟨rfl, ?_⟩⟩
  cases a with
  | none =>
    simp only [RdC] at hr
    subst hr
    rfl
  | some a => exact run_firstCells_some (P := P) (w := w) sz n a n c ys hl (fun j v hv => by rw [cell_world, hw]; exact hr j v hv)
def bv (b : UInt8) : Value := .int .u8 (b.toNat : Int)
theorem srcOf_string {P : Program} {h : Heap} (s : ByteArray) : SrcOf P h 1 (.string s) s.size (s.data.toList.map bv) := by
  refine ⟨by rw [List.length_map, Nat.mul_one]; rfl, fun w hw => ⟨rfl, ?_⟩⟩
  show Result.ok ((s.extract 0 s.size).data.map fun b => Value.int .u8 (b.toNat : Int)) w = _
  congr 1
  have e1 : (s.extract 0 s.size).data = s.data := by rw [ByteArray.data_extract]; exact Array.extract_size
  rw [e1]
  apply Array.ext'
  rw [Array.toList_map]
  rfl

/-- The second argument of an append is a slice or a text. -/
def srcTy (P : Program) (u : TypeId) : Bool :=
  match P.underlying u with
  | some (.slice _) => true
  | some .string => true
  | _ => false
theorem srcTy_cases {P : Program} {u : TypeId} (h : srcTy P u = true) : (∃ e, P.underlying u = some (.slice e)) ∨ P.underlying u = some .string := by
  unfold srcTy at h
  split at h
  · rename_i e he; exact .inl ⟨e, he⟩
  · rename_i he; exact .inr he
  · cases h

theorem append_sat {P : Program} {h : Heap} {F : List HProp} {a : Option Addr} {l c : Nat} {xs ys : List Value} {t u ty e : TypeId} {i : TypeInfo} {z : Value} {x : Value} {n : Nat} {K : Value → Heap → Prop}
    (ht : P.underlying t = some (.slice e)) (hu : srcTy P u = true) (hi : P.info? e = some i) (hz : i.zero = some z) (hzs : z.cells.size = i.size) (hpos : 0 < i.size)
    (H : sat (ownS e i.size a l c xs :: F) h) (hx : SrcOf P h i.size x n ys) (h1 : ∀ u ∈ ys, u.oneCell' = true) (hm : l + n ≤ 9223372036854775807) (hb : (l + n) * i.bytes ≤ 140737488355328)
    (hmm : l + n ≤ maxLen)
    (hK : ∀ a' c' h', (a' = none → l + n = 0) → sat (ownS e i.size a' (l + n) c' (xs ++ ys) :: F) h' → K (.slice a' (l + n) c') h') :
    RunH P (Builtin.append_ #[t, u] ty #[.slice a l c, x]) h K := by
  intro w hw
  subst hw
  obtain ⟨hyl, hsrc⟩ := hx
  obtain ⟨hl, hcase⟩ := ownS_cases H
  have grown : ∀ c0 : Nat, c0 < l + n → sat (ownS e i.size (some ⟨w.heap.size, 0, none⟩) (l + n) (grownCap w (l + n) c0 e) (xs ++ ys) :: F)
      (w.drew.alloc (.cells (xs.toArray ++ ys.toArray ++ Builtin.zeroCells z.cells (grownCap w (l + n) c0 e - (l + n))) e)).heap := fun c0 hc0 => by
    have hF : sat F w.heap := H.drop
    have hge := grownCap_ge w (l + n) c0 e
    have hcm : grownCap w (l + n) c0 e ≤ maxLen := grownCap_le_maxLen w (l + n) c0 e hmm
    refine ownS_mk (hF.push _) (nofz_zero _) hge hcm ?_ ?_
    · simp only [Array.size_append, List.size_toArray, size_zeroCells, hzs, hl, hyl, ← Nat.add_mul]
      congr 1
      omega
    · have e2 : (l + n) * i.size = (xs ++ ys).length := by rw [List.length_append, hl, hyl, Nat.add_mul]
      simp only [Array.toList_append, e2]
      exact List.take_left
  rcases hcase with ⟨rfl, rfl, rfl, rfl, hF⟩ | ⟨b, cells, fr, rfl, hlc, hcm, hcs, hfr, htk, H2⟩
  · by_cases hn : n = 0
    · subst hn
      have hy : ys = [] := List.eq_nil_of_length_eq_zero (by simpa using hyl)
      subst hy
      refine ⟨.slice none 0 0, w, ?_, .refl w, hK none 0 w.heap (fun _ => rfl) (ownS_nil _ _ hF)⟩
      obtain ⟨s1, s2⟩ := hsrc w rfl
      simp only [Builtin.append_]
      rcases srcTy_cases hu with ⟨e', hd⟩ | hd <;> simp [run_underlying ht, run_underlying hd, sizeOf, typeInfo, hi, s1, s2]
    · refine ⟨.slice (some ⟨w.heap.size, 0, none⟩) (0 + n) (grownCap w (0 + n) 0 e), w.drew.alloc (.cells (([] : List Value).toArray ++ ys.toArray ++ Builtin.zeroCells z.cells (grownCap w (0 + n) 0 e - (0 + n))) e), ?_, ⟨rfl, rfl, rfl⟩, hK _ _ _ (fun e => by cases e) (grown 0 (by omega))⟩
      obtain ⟨s1, s2⟩ := hsrc w rfl
      obtain ⟨s3, s4⟩ := hsrc w.drew rfl
      have e0 : ∀ w, (Builtin.firstCells i.size 0 (.slice none 0 0)).run P w = .ok #[] w := fun _ => rfl
      have h63' : ¬ (9223372036854775807 < (n : Int)) := by omega
      have h48' : ¬ (281474976710656 < Builtin.nextslicecap n 0 * i.bytes) := by
        have := growslice_fits (need := n) (old := 0) (bytes := i.bytes) (by omega) (by simpa using hb)
        omega
      simp only [Builtin.append_]
      rcases srcTy_cases hu with ⟨e', hd⟩ | hd <;> simp [run_underlying ht, run_underlying hd, sizeOf, typeInfo, zeroValue, hi, hz, s1, hn, h63', h48', Question.forced, s4, e0, newRow, grownCap]
  · by_cases hroom : l + n ≤ c
    · have hstore := run_storeCells_here (P := P) w b l i.size c cells e fr ys n H2.get hfr hcs hyl hroom h1
      have hup : sat (pt b (.cells (cells.toList.take (l * i.size) ++ ys ++ cells.toList.drop (l * i.size + ys.length)).toArray e fr) :: F) (w.setRow b (cells.toList.take (l * i.size) ++ ys ++ cells.toList.drop (l * i.size + ys.length)).toArray).heap :=
        H2.upd _ (setRow_heap w b cells _ e fr H2.get) fun k hk _ => setRow_other w b k _ hk
      refine ⟨.slice (some ⟨b, 0, none⟩) (l + n) c, w.setRow b (cells.toList.take (l * i.size) ++ ys ++ cells.toList.drop (l * i.size + ys.length)).toArray, ?_, ⟨rfl, rfl, rfl⟩, hK _ _ _ (fun e => by cases e) (ownS_mk hup ?_ hroom hcm ?_ ?_)⟩
      · obtain ⟨s1, s2⟩ := hsrc w rfl
        simp only [Builtin.append_]
        simp only [addr_add, Nat.zero_add] at hstore
        rcases srcTy_cases hu with ⟨e', hd⟩ | hd <;> (simp [run_underlying ht, run_underlying hd, sizeOf, typeInfo, hi, s1, s2, hroom]; rw [hstore]; simp [Result.andThen])
      · have hle : l * i.size + ys.length ≤ cells.size := by rw [hyl, hcs, ← Nat.add_mul]; exact Nat.mul_le_mul_right _ hroom
        rw [show (cells.toList.take (l * i.size) ++ ys ++ cells.toList.drop (l * i.size + ys.length)).toArray.size = cells.size by simp; omega]
        exact hfr
      · have hle : l * i.size + ys.length ≤ cells.size := by rw [hyl, hcs, ← Nat.add_mul]; exact Nat.mul_le_mul_right _ hroom
        simp
        omega
      · have e2 : (l + n) * i.size = (xs ++ ys).length := by rw [List.length_append, hl, hyl, Nat.add_mul]
        simp only [htk, e2]
        exact List.take_left
    · refine ⟨.slice (some ⟨w.heap.size, 0, none⟩) (l + n) (grownCap w (l + n) c e), w.drew.alloc (.cells (xs.toArray ++ ys.toArray ++ Builtin.zeroCells z.cells (grownCap w (l + n) c e - (l + n))) e), ?_, ⟨rfl, rfl, rfl⟩, hK _ _ _ (fun e => by cases e) (grown c (by omega))⟩
      obtain ⟨s1, s2⟩ := hsrc w rfl
      obtain ⟨s3, s4⟩ := hsrc w.drew rfl
      have h63' : ¬ (9223372036854775807 < ((l : Int) + (n : Int))) := by omega
      have h48' : ¬ (281474976710656 < Builtin.nextslicecap (l + n) c * i.bytes) := by
        have := growslice_fits (need := l + n) (old := c) (bytes := i.bytes) (by omega) hb
        omega
      have hfo := run_firstCells_some (P := P) (w := w.drew) i.size l ⟨b, 0, none⟩ l c xs hl (fun j v hv => by
        rw [cell_world]; exact ownS_read H j v hv)
      simp only [Builtin.append_]
      rcases srcTy_cases hu with ⟨e', hd⟩ | hd <;> (simp [run_underlying ht, run_underlying hd, sizeOf, typeInfo, zeroValue, hi, hz, s1, hroom, h63', h48', Question.forced, s4, hfo, newRow, grownCap] <;> (congr 2; apply Array.ext'; simp [List.append_assoc]))

/-- A text as bytes of its own. -/
theorem bytesOf_sat {P : Program} {h : Heap} {F : List HProp} {src dst e : TypeId} {s : ByteArray} {K : Value → Heap → Prop} (hs : P.underlying src = some .string) (hd : P.underlying dst = some (.slice e)) (he : P.underlying e = some (.int .u8))
    (hz : s.size ≤ maxLen) (H : sat F h) (hK : ∀ b c h', sat (ownS e 1 (some ⟨b, 0, none⟩) s.size c (s.data.toList.map bv) :: F) h' → K (.slice (some ⟨b, 0, none⟩) s.size c) h') :
    RunH P (Go.convert src dst (.string s)) h K := by
  intro w hw
  subst hw
  refine ⟨_, _, run_bytes_of_string w src dst e s hs hd he, ⟨rfl, rfl, rfl⟩, hK _ _ _ ?_⟩
  have hge := grownCap_ge w s.size 0 e
  have hcm : grownCap w s.size 0 e ≤ maxLen := grownCap_le_maxLen w s.size 0 e hz
  have hsz : (bytesRow s (grownCap w s.size 0 e)).size = grownCap w s.size 0 e := by
    have : s.data.size = s.size := rfl
    simp [bytesRow]
    omega
  refine ownS_mk (fr := ((bytesRow s (grownCap w s.size 0 e)).size, (bytesRow s (grownCap w s.size 0 e)).size + 1)) (H.push _) (nofz_end _) hge hcm (by rw [hsz, Nat.mul_one]) ?_
  have e2 : s.size * 1 = (s.data.toList.map bv).length := by rw [Nat.mul_one, List.length_map]; rfl
  simp only [bytesRow, Array.toList_append, e2, Array.toList_map]
  exact List.take_left
/-- One cell of a slice of its own is set. -/
theorem ownS_set {h : Heap} {F : List HProp} {e sz : Nat} {a : Addr} {l c : Nat} {xs : List Value} {j : Nat} {v : Value} {K : Heap → Prop} (H : sat (ownS e sz (some a) l c xs :: F) h) (hj : j < xs.length)
    (hK : ∀ h', sat (ownS e sz (some a) l c (xs.set j v) :: F) h' → K h') : StC h (a.add j) v K := by
  obtain ⟨hl, ⟨h1, _⟩ | ⟨b, cells, fr, h1, hlc, hcm, hcs, hfr, ht, H2⟩⟩ := ownS_cases H
  · cases h1
  · cases h1
    have hjc : j < cells.size := by
      have := congrArg List.length ht
      simp at this
      omega
    rw [addr_add, Nat.zero_add]
    obtain ⟨lo, hi⟩ := fr
    refine StC_sat H2 hjc (hfr j hjc) fun h' H' => hK _ (ownS_mk H' (by simpa using hfr) hlc hcm (by simpa using hcs) ?_)
    rw [Array.toList_setIfInBounds, ← ht, List.take_set]

end Go.Proofs.Yticjjdhaikbdaaa
