/- Tables in memory: what is gone over; new tables; no table (seat T). -/
import Derived.Test.YtibdiikcigokjaaGreatSkTb2
namespace Go.Proofs.YtibdiikcigokjaaGreat.TS
open Go Go.RowKit Go.MapKept
open Tb (T get set del Up Has)
open AF (ltB strLt_irrefl strLt_trans strLt_total)
set_option linter.unusedVariables false
set_option linter.unusedSimpArgs false

/-- Those not ahead of a key. -/
def fromL (l : T VT) (k : ByteArray) : T VT := l.dropWhile fun p => ltB p.1 k
theorem fromL_suffix (l : T VT) (k : ByteArray) : fromL l k <:+ l := List.dropWhile_suffix _
theorem fromL_nil (l : T VT) : fromL l .empty = l := by
  unfold fromL
  cases l with
  | nil => rfl
  | cons p l =>
    rw [List.dropWhile_cons]
    have : ltB p.1 .empty = false := by
      unfold ltB
      rw [decide_eq_false_iff_not]
      exact List.not_lt_nil _
    rw [this]
    rfl
/-- Where they begin. -/
def atL (l : T VT) (k : ByteArray) : Nat := (l.takeWhile fun p => ltB p.1 k).length
theorem atL_le (l : T VT) (k : ByteArray) : atL l k ≤ l.length := (List.takeWhile_prefix _).length_le
theorem drop_atL (l : T VT) (k : ByteArray) : l.drop (atL l k) = fromL l k := by
  unfold atL fromL
  induction l with
  | nil => rfl
  | cons p l ih =>
    rw [List.takeWhile_cons, List.dropWhile_cons]
    split
    · rw [List.length_cons, List.drop_succ_cons, ih]
    · rfl
theorem below_atL {l : T VT} {k : ByteArray} {i : Nat} {p : ByteArray × VT} (hi : i < atL l k) (hp : l[i]? = some p) : ltB p.1 k = true := by
  unfold atL at hi
  have h1 : (l.takeWhile fun p => ltB p.1 k)[i]? = some p := by
    obtain ⟨r, hr⟩ := List.takeWhile_prefix (p := fun p : ByteArray × VT => ltB p.1 k) (l := l)
    rw [← hr, List.getElem?_append_left hi] at hp
    exact hp
  have h2 := List.all_takeWhile (p := fun p : ByteArray × VT => ltB p.1 k) (l := l)
  exact List.all_eq_true.1 h2 p (List.mem_of_getElem? h1)
theorem above_atL {l : T VT} (U : Up l) {k : ByteArray} {i : Nat} {p : ByteArray × VT} (hi : atL l k ≤ i) (hp : l[i]? = some p) : ltB p.1 k = false := by
  have h1 : (fromL l k)[i - atL l k]? = some p := by rw [← drop_atL, List.getElem?_drop, show atL l k + (i - atL l k) = i by omega]; exact hp
  cases hb : ltB p.1 k with
  | false => rfl
  | true =>
    exfalso
    cases hf : fromL l k with
    | nil => rw [hf] at h1; cases h1
    | cons q r =>
      have hq : ¬ ltB q.1 k = true := by
        unfold fromL at hf
        have := List.head?_dropWhile_not (fun p : ByteArray × VT => ltB p.1 k) l
        rw [hf] at this
        simpa using this
      have Uf : Up (q :: r) := by rw [← hf]; exact U.sublist (fromL_suffix l k).sublist
      rw [hf] at h1
      rcases List.mem_cons.1 (List.mem_of_getElem? h1) with rfl | hm
      · exact hq hb
      · exact hq (strLt_trans (Uf.head p hm) hb)
section
variable {b : Nat} {l : T VT} {F : List HProp} {h : Heap}
theorem F245_spec {s : ByteArray} : CallsH Tryz.prog 245 [.string s] h fun v h' => v = .bool false ∧ h' = h := by
  apply F245_ok
  unfold F245
  refine ⟨congrArg Value.bool ?_, by trivial⟩
  rw [strEq_dec, decide_eq_true rfl]
  rfl
theorem F215_spec {x y : ByteArray} : CallsH Tryz.prog 215 [.string x, .string y] h fun v h' => v = .bool (ltB x y) ∧ h' = h := by
  apply F215_ok
  unfold F215
  refine F245_spec.mono ?_
  rintro v h1 ⟨rfl, rfl⟩
  rw [DB_bool, cond_false]
  exact ⟨congrArg Value.bool (AF.strLt_eq x y), by trivial⟩
/-- The search for a key. -/
theorem F168_spec {a : Option Addr} {n c : Nat} {key : ByteArray} (U : Up l) (hr : RdC h a ((l.map (·.1)).map Value.string)) (hn : l.length = n) (hm : n < 1099511627776) :
    CallsH Tryz.prog 168 [.slice a n c, .string key] h fun v h' => (∃ z, v = .tuple #[.int .i64 (atL l key : Int), .bool z]) ∧ h' = h := by
  apply F168_ok
  unfold F168
  have hle := atL_le l key
  have rd : ∀ {i : Nat} {p : ByteArray × VT} {K : Addr → Prop}, l[i]? = some p → (∀ b, cellAt h b = some (.string p.1) → K b) → IdxA a n (i : Int) 1 K := fun {i p K} hp hK =>
    strRead hr (by rw [List.length_map]; exact hn) (by rw [List.getElem?_map, hp]; rfl) hK
  refine ⟨fun st hh => hh = h ∧ ∃ i j : Nat, st = ((i : Int), (j : Int)) ∧ i ≤ atL l key ∧ atL l key ≤ j ∧ j ≤ n, fun st _ => (st.2 - st.1).toNat, ⟨rfl, 0, n, rfl, Nat.zero_le _, by omega, Nat.le_refl _⟩, ?_⟩
  rintro st h1 ⟨rfl, i, j, rfl, hi, hj, hjn⟩
  simp only []
  by_cases hlt : i < j
  · rw [decide_eq_true (show ((i : Int) < (j : Int)) by omega), cond_true]
    refine ⟨by decide, ?_⟩
    have e1 : IntKind.wrap .i64 ((i : Int) + (j : Int)) = ((i + j : Nat) : Int) := by rw [IntWalk.i64_in _ (by omega)]; omega
    have e2 : IntKind.wrap .u64 ((i + j : Nat) : Int) = ((i + j : Nat) : Int) := IntWalk.u64_in _ (by omega)
    have e3 : shrI .u64 ((i + j : Nat) : Int) 1 = (((i + j) / 2 : Nat) : Int) := shrI_nat .u64 (i + j) 1 (by decide)
    have e4 : IntKind.wrap .i64 (((i + j) / 2 : Nat) : Int) = (((i + j) / 2 : Nat) : Int) := wrap64_nat (by omega)
    rw [e1, e2, e3, e4]
    obtain ⟨p, hp⟩ : ∃ p, l[(i + j) / 2]? = some p := ⟨_, List.getElem?_eq_getElem (by omega)⟩
    refine rd hp fun b2 hc => CStr hc ?_
    refine F215_spec.mono ?_
    rintro v h2 ⟨rfl, rfl⟩
    rw [DB_bool]
    cases hb : ltB p.1 key with
    | true =>
      rw [cond_true, wrap64_succ (by omega)]
      refine ⟨⟨by trivial, (i + j) / 2 + 1, j, rfl, ?_, hj, hjn⟩, by omega⟩
      rcases Nat.lt_or_ge ((i + j) / 2) (atL l key) with h1 | h1
      · exact h1
      · rw [above_atL U h1 hp] at hb; cases hb
    | false =>
      rw [cond_false]
      refine ⟨⟨by trivial, i, (i + j) / 2, rfl, hi, ?_, by omega⟩, by omega⟩
      rcases Nat.lt_or_ge ((i + j) / 2) (atL l key) with h1 | h1
      · rw [below_atL h1 hp] at hb; cases hb
      · exact h1
  · rw [decide_eq_false (show ¬ ((i : Int) < (j : Int)) by omega), cond_false]
    have ei : i = atL l key := by omega
    subst ei
    by_cases hl : atL l key < n
    · rw [decide_eq_true (show ((atL l key : Int) < (n : Int)) by omega), cond_true]
      obtain ⟨p, hp⟩ : ∃ p, l[atL l key]? = some p := ⟨_, List.getElem?_eq_getElem (by omega)⟩
      refine rd hp fun b2 hc => CStr hc ?_
      cases strEq p.1 key with
      | true => exact ⟨⟨_, rfl⟩, by trivial⟩
      | false =>
        rw [cond_false]
        refine rd hp fun b3 hc3 => CStr hc3 ?_
        have h54 : ∀ {s : ByteArray} {h : Heap}, CallsH Tryz.prog 216 [.string s] h fun v h' => v = .bool false ∧ h' = h := fun {s h} => by
          apply F216_ok
          unfold F216
          refine ⟨congrArg Value.bool ?_, by trivial⟩
          rw [strEq_dec, decide_eq_true rfl]
          rfl
        refine h54.mono ?_
        rintro v h2 ⟨rfl, rfl⟩
        rw [DB_bool, cond_false]
        exact ⟨⟨_, rfl⟩, by trivial⟩
    · rw [decide_eq_false (by omega), cond_false]
      exact ⟨⟨_, rfl⟩, by trivial⟩
/-- What is gone over: a part of a table's pairs. -/
structure SeqQ where
  l : T VT
  m : List (ByteArray × Value)
  mb : Nat
  a : Option Addr
  n : Nat
  c : Nat
structure SeqOk (s : T VT) (q : SeqQ) : Prop where
  has : Has ve q.m q.l
  sub : s <:+ q.l
  len : q.n = s.length
  small : q.n < 1099511627776
def seqP (q : SeqQ) (b0 b1 : Nat) (s : T VT) : HProp := Many [pur (SeqOk s q), pt b0 (.cells #[.slice q.a q.n q.c] 97 (0, 0)), pt b1 (.cells #[.map (some q.mb)] 175 (0, 0)), roS q.a ((s.map fun p : ByteArray × VT => p.1).map Value.string), ownM strKeys q.mb q.m]
abbrev seqV (b0 b1 : Nat) : Value := .func (.func 217) #[] #[ptrV b0, ptrV b1]
theorem seq_open {q : SeqQ} {b0 b1 : Nat} {s : T VT} (H : sat (seqP q b0 b1 s :: F) h) : SeqOk s q ∧ sat (pt b0 (.cells #[.slice q.a q.n q.c] 97 (0, 0)) :: pt b1 (.cells #[.map (some q.mb)] 175 (0, 0)) :: roS q.a ((s.map fun p : ByteArray × VT => p.1).map Value.string) :: ownM strKeys q.mb q.m :: F) h :=
  sat_pur.1 H.open
theorem seq_shut {q : SeqQ} {b0 b1 : Nat} {s : T VT} (hq : SeqOk s q) (H : sat (pt b0 (.cells #[.slice q.a q.n q.c] 97 (0, 0)) :: pt b1 (.cells #[.map (some q.mb)] 175 (0, 0)) :: roS q.a ((s.map fun p : ByteArray × VT => p.1).map Value.string) :: ownM strKeys q.mb q.m :: F) h) : sat (seqP q b0 b1 s :: F) h :=
  sat.shut (m := [pur (SeqOk s q), pt b0 (.cells #[.slice q.a q.n q.c] 97 (0, 0)), pt b1 (.cells #[.map (some q.mb)] 175 (0, 0)), roS q.a ((s.map fun p : ByteArray × VT => p.1).map Value.string), ownM strKeys q.mb q.m]) (sat_pur.2 ⟨hq, H⟩)
theorem sub_getV {s l : T VT} (U : Up l) (hs : s <:+ l) {i : Nat} {p : ByteArray × VT} (hp : s[i]? = some p) : get l p.1 = some p.2 := Tb.get_of U.nodup (hs.subset (List.mem_of_getElem? hp))
theorem F217_spec {q : SeqQ} {b0 b1 : Nat} {s : T VT} {yv : Value} (G : Nat → List HProp) (Out : Heap → Prop) (start : sat (seqP q b0 b1 s :: G 0) h)
    (round : ∀ i p h2, s[i]? = some p → sat (seqP q b0 b1 s :: G i) h2 → CallV Tryz.prog yv [.string p.1, ve p.2] h2 fun r h3 => ∃ go, r = .bool go ∧ (go = true → sat (seqP q b0 b1 s :: G (i + 1)) h3) ∧ (go = false → Out h3))
    (fin : ∀ h2, sat (seqP q b0 b1 s :: G s.length) h2 → Out h2) : CallsH Tryz.prog 217 [yv, ptrV b0, ptrV b1] h fun v h' => Out h' := by
  refine F217_ok (c0 := ⟨b0, 0, none⟩) (c1 := ⟨b1, 0, none⟩) ?_
  unfold F217
  obtain ⟨hq, S0⟩ := seq_open start
  refine LdV (v := .slice q.a q.n q.c) S0.get rfl ?_
  rw [DSl_slice]
  have hlen := hq.len
  have hsm := hq.small
  refine ⟨fun st hh => ∃ i : Nat, st = (i : Int) ∧ i ≤ q.n ∧ sat (seqP q b0 b1 s :: G i) hh, fun st _ => ((q.n : Int) - st).toNat, ⟨0, rfl, Nat.zero_le _, start⟩, ?_⟩
  rintro st h1 ⟨i, rfl, hi, H1⟩
  by_cases hlt : i < q.n
  · rw [decide_eq_true (show ((i : Int) < (q.n : Int)) by omega), cond_true]
    obtain ⟨p, hp⟩ : ∃ p, s[i]? = some p := ⟨_, List.getElem?_eq_getElem (by omega)⟩
    obtain ⟨_, S⟩ := seq_open H1
    refine strRead (roS_read (S.mv 2)) (by rw [List.length_map]; exact hlen.symm) (by rw [List.getElem?_map, hp]; rfl) fun b2 hc => CStr hc ?_
    refine LdV (v := .map (some q.mb)) (S.mv 1).get rfl ?_
    rw [DM_map]
    obtain ⟨es, hes, f, hf, hv, _⟩ := look hq.has (S.mv 3) p.1
    refine ⟨es, hes, f, hf, ?_⟩
    rw [hv, got, DV, sub_getV hq.has.2 hq.sub hp, Option.getD_some]
    refine (round i p h1 hp H1).mono ?_
    rintro r h2 ⟨go, rfl, hgo, hstop⟩
    rw [DB_bool]
    cases go with
    | false => exact hstop rfl
    | true =>
      rw [Bool.not_true, cond_false, wrap64_succ (by omega)]
      exact ⟨⟨i + 1, rfl, by omega, hgo rfl⟩, by show ((q.n : Int) - ((i + 1 : Nat) : Int)).toNat < ((q.n : Int) - (i : Int)).toNat; omega⟩
  · rw [decide_eq_false (by omega), cond_false]
    have ei : i = s.length := by omega
    subst ei
    exact fin h1 H1
/-- A range over a table's pairs. -/
theorem range_tab {q : SeqQ} {b0 b1 : Nat} {s : T VT} {B : Nat → (LoopState → Option Code → Obj) → List Value → Heap → (Value → Heap → Prop) → Prop} {A : Option Code → Heap → Prop} (G : Nat → List HProp) (X : Code → List HProp) (H : sat (seqP q b0 b1 s :: G 0) h)
    (round : ∀ i p (L : Nat) (rec : LoopState → Option Code → Obj) (h2 : Heap) (Q : Value → Heap → Prop), s[i]? = some p → sat (pt L (rec .ready none) :: markD h.size :: seqP q b0 b1 s :: G i) h2 →
      (∀ h3, sat (pt L (rec .busy none) :: markD h.size :: seqP q b0 b1 s :: G (i + 1)) h3 → h3[L]? = some (rec .busy none) ∧ Q (.bool true) (h3.setIfInBounds L (rec .ready none))) →
      (∀ j h3, sat (pt L (rec .busy none) :: markD h.size :: X j) h3 → h3[L]? = some (rec .busy none) ∧ Q (.bool false) (h3.setIfInBounds L (rec .done (some j)))) → B L rec [.string p.1, ve p.2] h2 Q)
    (after : ∀ h2, sat (markD h.size :: seqP q b0 b1 s :: G s.length) h2 → A none h2) (afterX : ∀ j h2, sat (markD h.size :: X j) h2 → A (some j) h2) :
    RangeFn Tryz.prog (seqV b0 b1) 2 none h B A :=
  range_iter s (fun p : ByteArray × VT => [.string p.1, ve p.2]) (seqP q b0 b1 s) G X H (fun _ => rfl) (fun yv G' Out h1 H1 hr hf => F217_spec G' Out H1 hr hf) round after afterX
theorem F115_spec {key : ByteArray} (hl : l.length < 1099511627776) (H : sat (tabP b l :: F) h) : CallsH Tryz.prog 115 [ptrV b, .string key] h fun v h' => ∃ q b0 b1, v = seqV b0 b1 ∧ sat (seqP q b0 b1 (fromL l key) :: tabP b l :: F) h' := by
  apply F115_ok
  unfold F115
  refine (F109_spec H).mono ?_
  rintro v h1 ⟨b2, rfl, H1⟩
  show DP (.pointer (some ⟨b2, 0, none⟩)) _
  rw [DP_pointer]
  refine (F167_spec hl H1).mono ?_
  rintro v h2 ⟨a, c, rfl, hlc, H2⟩
  rw [DSl_slice]
  obtain ⟨q, hq, H3⟩ := tab_open (H2.mv 1)
  -- tabO, ownM, tabK, roS keys, tab, F
  have hrd := roS_read (H3.mv 3)
  refine (F168_spec hq.has.2 hrd rfl hl).mono ?_
  rintro v h3 ⟨⟨z, rfl⟩, rfl⟩
  refine ⟨_, _, rfl, ?_⟩
  have hle := atL_le l key
  refine SlV_nat hle hlc (Nat.le_refl c) ?_
  refine LdC (v := .map (some q.mb)) H3 rfl ?_
  show DM (.map (some q.mb)) _
  rw [DM_map]
  have h37 : CallsH Tryz.prog 169 [.slice (subA a (atL l key) c 1) (l.length - atL l key) (c - atL l key), .map (some q.mb)] h3 fun v h' => ∃ b0 b1, v = seqV b0 b1 ∧ sat (pt b1 (.cells #[.map (some q.mb)] 175 (0, 0)) :: pt b0 (.cells #[.slice (subA a (atL l key) c 1) (l.length - atL l key) (c - atL l key)] 97 (0, 0)) :: tabO b2 q :: ownM strKeys q.mb q.m :: tabK q :: roS a ((l.map (·.1)).map Value.string) :: tabP b l :: F) h' := by
    apply F169_ok
    unfold F169
    exact Al_sat H3 fun b0 h4 H4 => Al_sat H4 fun b1 h5 H5 => ⟨b0, b1, rfl, H5⟩
  refine h37.mono ?_
  rintro v h4 ⟨b0, b1, rfl, H4⟩
  refine ⟨_, rfl, ⟨l, q.m, q.mb, subA a (atL l key) c 1, l.length - atL l key, c - atL l key⟩, b0, b1, rfl, ?_⟩
  have hfl : (fromL l key).length = l.length - atL l key := by rw [← drop_atL, List.length_drop]
  -- b1, b0, tabO, ownM, tabK, roS, tab, F
  have H5 := (H4.mv 5).imp (B := roS (subA a (atL l key) c 1) (((fromL l key).map (·.1)).map Value.string)) fun r hr => ⟨hr.1, fun h hs => by
    have h1 := (hr.2 h hs).sub (atL l key) (l.length - atL l key) c (fun e => by omega)
    rw [← drop_atL]
    rw [List.take_of_length_le (by simp)] at h1
    rwa [List.map_drop, List.map_drop]⟩
  refine seq_shut ⟨hq.has, fromL_suffix l key, hfl.symm, (by show l.length - atL l key < _; omega)⟩ ?_
  exact H5.ordT 7 [2, 1, 0, 4, 6]
theorem F46_spec (hl : l.length < 1099511627776) (H : sat (tabP b l :: F) h) : CallsH Tryz.prog 46 [ptrV b] h fun v h' => ∃ q b0 b1, v = seqV b0 b1 ∧ sat (seqP q b0 b1 l :: tabP b l :: F) h' := by
  apply F46_ok
  unfold F46
  refine (F115_spec (key := .empty) hl H).mono ?_
  rintro v h1 ⟨q, b0, b1, rfl, H1⟩
  rw [fromL_nil] at H1
  exact ⟨_, rfl, q, b0, b1, rfl, H1⟩
/-! ### new tables -/
abbrev entC (p : ByteArray × VT) : List Value := [.string p.1, ve p.2]
def ofL (es : T VT) : T VT := es.foldl (fun l p => set p.1 p.2 l) []
theorem F34_spec {es : T VT} {a : Option Addr} {n c : Nat} (hr : ∀ h', sat F h' → RdC h' a (es.flatMap entC)) (hn : es.length = n) (hm : n < 1099511627776) (H : sat F h) :
    CallsH Tryz.prog 34 [.slice a n c] h fun v h' => ∃ b, v = ptrV b ∧ sat (tabP b (ofL es) :: F) h' := by
  apply F34_ok
  unfold F34
  refine Al_sat H fun mb h1 H1 => Al_sat H1 fun b1 h2 H2 => ?_
  refine ⟨fun st hh => ∃ (i : Nat) (m : List (ByteArray × Value)), st = (i : Int) ∧ i ≤ n ∧ Has ve m (ofL (es.take i)) ∧ sat (tabO b1 ⟨mb, m, none, 0, 0, false, []⟩ :: ownM strKeys mb m :: F) hh, fun st _ => ((n : Int) - st).toNat, ⟨0, [], rfl, Nat.zero_le _, Has.new ve, (ownM_new strKeys (H2.mv 1)).mv 1⟩, ?_⟩
  rintro st h3 ⟨i, m, rfl, hi, hm2, H3⟩
  by_cases hlt : i < n
  · rw [decide_eq_true (show ((i : Int) < (n : Int)) by omega), cond_true]
    obtain ⟨p, hp⟩ : ∃ p, es[i]? = some p := ⟨_, List.getElem?_eq_getElem (by omega)⟩
    refine IdxC (f := entC) (fun _ => rfl) (by decide) (hr h3 H3.drop.drop) hn hp fun ba hba hc => ⟨_, hc 0 _ rfl, _, hc 1 _ rfl, p.1, p.2, rfl, ?_⟩
    refine Al_sat H3 fun b2 h4 H4 => ?_
    refine StCC H4 (show (0 : Nat) < 2 by decide) rfl fun h5 H5 => StCC H5 (show (1 : Nat) < 2 by decide) rfl fun h6 H6 => ?_
    have H7 : sat (pt b2 (.cells #[.string p.1, ve p.2] 178 (0, 0)) :: tabO b1 ⟨mb, m, none, 0, 0, false, []⟩ :: ownM strKeys mb m :: F) h6 := H6
    refine LdC (v := .map (some mb)) (H7.mv 1) rfl ?_
    show DM (.map (some mb)) _
    rw [DM_map]
    refine LdStr H7 rfl ?_
    refine LdC (v := ve p.2) H7 rfl ?_
    rw [DV]
    refine mapUpdate_sat (E := strKeys) (k := p.1) uMap uKey (H7.mv 2) fun h8 H8 => ?_
    rw [wrap64_succ (by omega)]
    have e : ofL (es.take (i + 1)) = set p.1 p.2 (ofL (es.take i)) := by
      unfold ofL
      rw [List.take_add_one, hp, List.foldl_append]
      rfl
    refine ⟨⟨i + 1, updM m p.1 (ve p.2), rfl, by omega, by rw [e]; exact hm2.upd p.1 p.2, ?_⟩, by show ((n : Int) - ((i + 1 : Nat) : Int)).toNat < ((n : Int) - (i : Int)).toNat; omega⟩
    -- ownM, b2, tabO, F
    exact H8.ordT 3 [2, 0]
  · rw [decide_eq_false (by omega), cond_false]
    rw [List.take_of_length_le (by omega)] at hm2
    refine ⟨b1, rfl, tab_shut (q := ⟨mb, m, none, 0, 0, false, []⟩) ⟨hm2, Nat.le_refl _, fun e => by cases e⟩ ?_⟩
    exact (roS_none H3).ordT 3 [1, 2, 0]
end

end Go.Proofs.YtibdiikcigokjaaGreat.TS
