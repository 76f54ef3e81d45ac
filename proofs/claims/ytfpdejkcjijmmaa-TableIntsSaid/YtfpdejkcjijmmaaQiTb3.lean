/- Tables in memory: what is gone over; new tables; no table (seat T). -/
import Derived.Test.YtfpdejkcjijmmaaQiTb2
namespace Go.Proofs.Ytfpdejkcjijmmaa.TS
open Go Go.RowKit Go.MapKept
open Tb (T get set del Up Has)
open AF (ltB strLt_irrefl strLt_trans strLt_total)
set_option linter.unusedVariables false
set_option linter.unusedSimpArgs false

/-- Those not ahead of a key. -/
def fromL (l : T VT) (k : ByteArray) : T VT := l.dropWhile fun p => ltB p.1 k
theorem fromL_suffix (l : T VT) (k : ByteArray) : fromL l k <:+ l := List.dropWhile_suffix _
theorem fromL_nil (l : T VT) : fromL l .empty = l := by
  unfold fromL
  cases l with
  | nil => rfl
  | cons p l =>
    rw [List.dropWhile_cons]
    have : ltB p.1 .empty = false := by
      unfold ltB
      rw [decide_eq_false_iff_not]
      exact List.not_lt_nil _
    rw [this]
    rfl
/-- Where they begin. -/
def atL (l : T VT) (k : ByteArray) : Nat := (l.takeWhile fun p => ltB p.1 k).length
theorem atL_le (l : T VT) (k : ByteArray) : atL l k ≤ l.length := (List.takeWhile_prefix _).length_le
theorem drop_atL (l : T VT) (k : ByteArray) : l.drop (atL l k) = fromL l k := by
  unfold atL fromL
  induction l with
  | nil => rfl
  | cons p l ih =>
    rw [List.takeWhile_cons, List.dropWhile_cons]
    split
    · rw [List.length_cons, List.drop_succ_cons, ih]
    · rfl
theorem below_atL {l : T VT} {k : ByteArray} {i : Nat} {p : ByteArray × VT} (hi : i < atL l k) (hp : l[i]? = some p) : ltB p.1 k = true := by
  unfold atL at hi
  have h1 : (l.takeWhile fun p => ltB p.1 k)[i]? = some p := by
    obtain ⟨r, hr⟩ := List.takeWhile_prefix (p := fun p : ByteArray × VT => ltB p.1 k) (l := l)
    rw [← hr, List.getElem?_append_left hi] at hp
    exact hp
  have h2 := List.all_takeWhile (p := fun p : ByteArray × VT => ltB p.1 k) (l := l)
  exact List.all_eq_true.1 h2 p (List.mem_of_getElem? h1)
theorem above_atL {l : T VT} (U : Up l) {k : ByteArray} {i : Nat} {p : ByteArray × VT} (hi : atL l k ≤ i) (hp : l[i]? = some p) : ltB p.1 k = false := by
  have h1 : (fromL l k)[i - atL l k]? = some p := by rw [← drop_atL, List.getElem?_drop, show atL l k + (i - atL l k) = i by omega]; exact hp
  cases hb : ltB p.1 k with
  | false => rfl
  | true =>
    exfalso
    cases hf : fromL l k with
    | nil => rw [hf] at h1; cases h1
    | cons q r =>
      have hq : ¬ ltB q.1 k = true := by
        unfold fromL at hf
        have := List.head?_dropWhile_not (fun p : ByteArray × VT => ltB p.1 k) l
        rw [hf] at this
        simpa using this
      have Uf : Up (q :: r) := by rw [← hf]; exact U.sublist (fromL_suffix l k).sublist
      rw [hf] at h1
      rcases List.mem_cons.1 (List.mem_of_getElem? h1) with rfl | hm
      · exact hq hb
      · exact hq (strLt_trans (Uf.head p hm) hb)
section
variable {b : Nat} {l : T VT} {F : List HProp} {h : Heap}
theorem F68_spec {s : ByteArray} : CallsH Try.prog 68 [.string s] h fun v h' => v = .bool false ∧ h' = h := by
  apply F68_ok
  unfold F68
  refine ⟨congrArg Value.bool ?_, by trivial⟩
  rw [strEq_dec, decide_eq_true rfl]
  rfl
theorem F53_spec {x y : ByteArray} : CallsH Try.prog 53 [.string x, .string y] h fun v h' => v = .bool (ltB x y) ∧ h' = h := by
  apply F53_ok
  unfold F53
  refine F68_spec.mono ?_
  rintro v h1 ⟨rfl, rfl⟩
  rw [DB_bool, cond_false]
  exact ⟨congrArg Value.bool (AF.strLt_eq x y), by trivial⟩
/-- The search for a key. -/
theorem F36_spec {a : Option Addr} {n c : Nat} {key : ByteArray} (U : Up l) (hr : RdC h a ((l.map (·.1)).map Value.string)) (hn : l.length = n) (hm : n < 1099511627776) :
    CallsH Try.prog 36 [.slice a n c, .string key] h fun v h' => (∃ z, v = .tuple #[.int .i64 (atL l key : Int), .bool z]) ∧ h' = h := by
  apply F36_ok
  unfold F36
  have hle := atL_le l key
  have rd : ∀ {i : Nat} {p : ByteArray × VT} {K : Addr → Prop}, l[i]? = some p → (∀ b, cellAt h b = some (.string p.1) → K b) → IdxA a n (i : Int) 1 K := fun {i p K} hp hK =>
    strRead hr (by rw [List.length_map]; exact hn) (by rw [List.getElem?_map, hp]; rfl) hK
  refine ⟨fun st hh => hh = h ∧ ∃ i j : Nat, st = ((i : Int), (j : Int)) ∧ i ≤ atL l key ∧ atL l key ≤ j ∧ j ≤ n, fun st _ => (st.2 - st.1).toNat, ⟨rfl, 0, n, rfl, Nat.zero_le _, by omega, Nat.le_refl _⟩, ?_⟩
  rintro st h1 ⟨rfl, i, j, rfl, hi, hj, hjn⟩
  simp only []
  by_cases hlt : i < j
  · rw [decide_eq_true (show ((i : Int) < (j : Int)) by omega), cond_true]
    refine ⟨by decide, ?_⟩
    have e1 : IntKind.wrap .i64 ((i : Int) + (j : Int)) = ((i + j : Nat) : Int) := by rw [IntWalk.i64_in _ (by omega)]; omega
    have e2 : IntKind.wrap .u64 ((i + j : Nat) : Int) = ((i + j : Nat) : Int) := IntWalk.u64_in _ (by omega)
    have e3 : shrI .u64 ((i + j : Nat) : Int) 1 = (((i + j) / 2 : Nat) : Int) := shrI_nat .u64 (i + j) 1 (by decide)
    have e4 : IntKind.wrap .i64 (((i + j) / 2 : Nat) : Int) = (((i + j) / 2 : Nat) : Int) := wrap64_nat (by omega)
    rw [e1, e2, e3, e4]
    obtain ⟨p, hp⟩ : ∃ p, l[(i + j) / 2]? = some p := ⟨_, List.getElem?_eq_getElem (by omega)⟩
    refine rd hp fun b2 hc => CStr hc ?_
    refine F53_spec.mono ?_
    rintro v h2 ⟨rfl, rfl⟩
    rw [DB_bool]
    cases hb : ltB p.1 key with
    | true =>
      rw [cond_true, wrap64_succ (by omega)]
      refine ⟨⟨by trivial, (i + j) / 2 + 1, j, rfl, ?_, hj, hjn⟩, by omega⟩
      rcases Nat.lt_or_ge ((i + j) / 2) (atL l key) with h1 | h1
      · exact h1
      · rw [above_atL U h1 hp] at hb; cases hb
    | false =>
      rw [cond_false]
      refine ⟨⟨by trivial, i, (i + j) / 2, rfl, hi, ?_, by omega⟩, by omega⟩
      rcases Nat.lt_or_ge ((i + j) / 2) (atL l key) with h1 | h1
      · rw [below_atL h1 hp] at hb; cases hb
      · exact h1
  · rw [decide_eq_false (show ¬ ((i : Int) < (j : Int)) by omega), cond_false]
    have ei : i = atL l key := by omega
    subst ei
    by_cases hl : atL l key < n
    · rw [decide_eq_true (show ((atL l key : Int) < (n : Int)) by omega), cond_true]
      obtain ⟨p, hp⟩ : ∃ p, l[atL l key]? = some p := ⟨_, List.getElem?_eq_getElem (by omega)⟩
      refine rd hp fun b2 hc => CStr hc ?_
      cases strEq p.1 key with
      | true => exact ⟨⟨_, rfl⟩, by trivial⟩
      | false =>
        rw [cond_false]
        refine rd hp fun b3 hc3 => CStr hc3 ?_
        have h54 : ∀ {s : ByteArray} {h : Heap}, CallsH Try.prog 54 [.string s] h fun v h' => v = .bool false ∧ h' = h := fun {s h} => by
          apply F54_ok
          unfold F54
          refine ⟨congrArg Value.bool ?_, by trivial⟩
          rw [strEq_dec, decide_eq_true rfl]
          rfl
        refine h54.mono ?_
        rintro v h2 ⟨rfl, rfl⟩
        rw [DB_bool, cond_false]
        exact ⟨⟨_, rfl⟩, by trivial⟩
    · rw [decide_eq_false (by omega), cond_false]
      exact ⟨⟨_, rfl⟩, by trivial⟩
/-- What is gone over: a part of a table's pairs. -/
structure SeqQ where
  l : T VT
  m : List (ByteArray × Value)
  mb : Nat
  a : Option Addr
  n : Nat
  c : Nat
structure SeqOk (s : T VT) (q : SeqQ) : Prop where
  has : Has ve q.m q.l
  sub : s <:+ q.l
  len : q.n = s.length
  small : q.n < 1099511627776
def seqP (q : SeqQ) (b0 b1 : Nat) (s : T VT) : HProp := Many [pur (SeqOk s q), pt b0 (.cells #[.slice q.a q.n q.c] 80 (0, 0)), pt b1 (.cells #[.map (some q.mb)] 79 (0, 0)), roS q.a ((s.map fun p : ByteArray × VT => p.1).map Value.string), ownM strKeys q.mb q.m]
abbrev seqV (b0 b1 : Nat) : Value := .func (.func 55) #[] #[ptrV b0, ptrV b1]
theorem seq_open {q : SeqQ} {b0 b1 : Nat} {s : T VT} (H : sat (seqP q b0 b1 s :: F) h) : SeqOk s q ∧ sat (pt b0 (.cells #[.slice q.a q.n q.c] 80 (0, 0)) :: pt b1 (.cells #[.map (some q.mb)] 79 (0, 0)) :: roS q.a ((s.map fun p : ByteArray × VT => p.1).map Value.string) :: ownM strKeys q.mb q.m :: F) h :=
  sat_pur.1 H.open
theorem seq_shut {q : SeqQ} {b0 b1 : Nat} {s : T VT} (hq : SeqOk s q) (H : sat (pt b0 (.cells #[.slice q.a q.n q.c] 80 (0, 0)) :: pt b1 (.cells #[.map (some q.mb)] 79 (0, 0)) :: roS q.a ((s.map fun p : ByteArray × VT => p.1).map Value.string) :: ownM strKeys q.mb q.m :: F) h) : sat (seqP q b0 b1 s :: F) h :=
  sat.shut (m := [pur (SeqOk s q), pt b0 (.cells #[.slice q.a q.n q.c] 80 (0, 0)), pt b1 (.cells #[.map (some q.mb)] 79 (0, 0)), roS q.a ((s.map fun p : ByteArray × VT => p.1).map Value.string), ownM strKeys q.mb q.m]) (sat_pur.2 ⟨hq, H⟩)
theorem sub_getV {s l : T VT} (U : Up l) (hs : s <:+ l) {i : Nat} {p : ByteArray × VT} (hp : s[i]? = some p) : get l p.1 = some p.2 := Tb.get_of U.nodup (hs.subset (List.mem_of_getElem? hp))
theorem F55_spec {q : SeqQ} {b0 b1 : Nat} {s : T VT} {yv : Value} (G : Nat → List HProp) (Out : Heap → Prop) (start : sat (seqP q b0 b1 s :: G 0) h)
    (round : ∀ i p h2, s[i]? = some p → sat (seqP q b0 b1 s :: G i) h2 → CallV Try.prog yv [.string p.1, ve p.2] h2 fun r h3 => ∃ go, r = .bool go ∧ (go = true → sat (seqP q b0 b1 s :: G (i + 1)) h3) ∧ (go = false → Out h3))
    (fin : ∀ h2, sat (seqP q b0 b1 s :: G s.length) h2 → Out h2) : CallsH Try.prog 55 [yv, ptrV b0, ptrV b1] h fun v h' => Out h' := by
  refine F55_ok (c0 := ⟨b0, 0, none⟩) (c1 := ⟨b1, 0, none⟩) ?_
  unfold F55
  obtain ⟨hq, S0⟩ := seq_open start
  refine LdV (v := .slice q.a q.n q.c) S0.get rfl ?_
  rw [DSl_slice]
  have hlen := hq.len
  have hsm := hq.small
  refine ⟨fun st hh => ∃ i : Nat, st = (i : Int) ∧ i ≤ q.n ∧ sat (seqP q b0 b1 s :: G i) hh, fun st _ => ((q.n : Int) - st).toNat, ⟨0, rfl, Nat.zero_le _, start⟩, ?_⟩
  rintro st h1 ⟨i, rfl, hi, H1⟩
  by_cases hlt : i < q.n
  · rw [decide_eq_true (show ((i : Int) < (q.n : Int)) by omega), cond_true]
    obtain ⟨p, hp⟩ : ∃ p, s[i]? = some p := ⟨_, List.getElem?_eq_getElem (by omega)⟩
    obtain ⟨_, S⟩ := seq_open H1
    refine strRead (roS_read (S.mv 2)) (by rw [List.length_map]; exact hlen.symm) (by rw [List.getElem?_map, hp]; rfl) fun b2 hc => CStr hc ?_
    refine LdV (v := .map (some q.mb)) (S.mv 1).get rfl ?_
    rw [DM_map]
    obtain ⟨es, hes, f, hf, hv, _⟩ := look hq.has (S.mv 3) p.1
    refine ⟨es, hes, f, hf, ?_⟩
    rw [hv, got, DV, sub_getV hq.has.2 hq.sub hp, Option.getD_some]
    refine (round i p h1 hp H1).mono ?_
    rintro r h2 ⟨go, rfl, hgo, hstop⟩
    rw [DB_bool]
    cases go with
    | false => exact hstop rfl
    | true =>
      rw [Bool.not_true, cond_false, wrap64_succ (by omega)]
      exact ⟨⟨i + 1, rfl, by omega, hgo rfl⟩, by show ((q.n : Int) - ((i + 1 : Nat) : Int)).toNat < ((q.n : Int) - (i : Int)).toNat; omega⟩
  · rw [decide_eq_false (by omega), cond_false]
    have ei : i = s.length := by omega
    subst ei
    exact fin h1 H1
/-- A range over a table's pairs. -/
theorem range_tab {q : SeqQ} {b0 b1 : Nat} {s : T VT} {B : Nat → (LoopState → Option Code → Obj) → List Value → Heap → (Value → Heap → Prop) → Prop} {A : Option Code → Heap → Prop} (G : Nat → List HProp) (X : Code → List HProp) (H : sat (seqP q b0 b1 s :: G 0) h)
    (round : ∀ i p (L : Nat) (rec : LoopState → Option Code → Obj) (h2 : Heap) (Q : Value → Heap → Prop), s[i]? = some p → sat (pt L (rec .ready none) :: markD h.size :: seqP q b0 b1 s :: G i) h2 →
      (∀ h3, sat (pt L (rec .busy none) :: markD h.size :: seqP q b0 b1 s :: G (i + 1)) h3 → h3[L]? = some (rec .busy none) ∧ Q (.bool true) (h3.setIfInBounds L (rec .ready none))) →
      (∀ j h3, sat (pt L (rec .busy none) :: markD h.size :: X j) h3 → h3[L]? = some (rec .busy none) ∧ Q (.bool false) (h3.setIfInBounds L (rec .done (some j)))) → B L rec [.string p.1, ve p.2] h2 Q)
    (after : ∀ h2, sat (markD h.size :: seqP q b0 b1 s :: G s.length) h2 → A none h2) (afterX : ∀ j h2, sat (markD h.size :: X j) h2 → A (some j) h2) :
    RangeFn Try.prog (seqV b0 b1) 2 none h B A :=
  range_iter s (fun p : ByteArray × VT => [.string p.1, ve p.2]) (seqP q b0 b1 s) G X H (fun _ => rfl) (fun yv G' Out h1 H1 hr hf => F55_spec G' Out H1 hr hf) round after afterX
/-! ### new tables -/
abbrev entC (p : ByteArray × VT) : List Value := [.string p.1, ve p.2]
def ofL (es : T VT) : T VT := es.foldl (fun l p => set p.1 p.2 l) []
end

end Go.Proofs.Ytfpdejkcjijmmaa.TS
