/- Lists of parts that are owned, parts of slices, bytes as naturals and as texts. -/
import Derived.Test.YticjjdhaikbdaaaFw10
namespace Go.Proofs.Yticjjdhaikbdaaa
open Go Go.RowKit
set_option linter.unusedVariables false
set_option linter.unusedSimpArgs false

/-! ### parts among parts -/
theorem mvL_get : ∀ (k : Nat) (l : List HProp) (A : HProp), l[k]? = some A → ∃ r, mvL k l = A :: r
  | 0, a :: l, A, h => by simp at h; subst h; exact ⟨l, rfl⟩
  | 0, [], A, h => by simp at h
  | k + 1, [], A, h => by simp at h
  | k + 1, a :: l, A, h => by
    obtain ⟨r, hr⟩ := mvL_get k l A (by simpa using h)
    exact ⟨a :: r, by simp [mvL, hr]⟩
theorem sat.pick {l : List HProp} {h : Heap} (H : sat l h) {A : HProp} {k : Nat} (hk : l[k]? = some A) : ∃ r, sat (A :: r) h := by
  obtain ⟨r, hr⟩ := mvL_get k l A hk
  exact ⟨r, hr ▸ H.mv k⟩
theorem sat.front {l m : List HProp} {h : Heap} (H : sat (l ++ m) h) : sat (Many l :: m) h := H.shut

/-! ### parts of slices -/
theorem addr_add_add (a : Addr) (m n : Nat) : (a.add m).add n = a.add (m + n) := by
  obtain ⟨b, o, sp⟩ := a
  unfold Addr.add
  by_cases h1 : m = 0
  · subst h1
    simp
  · by_cases h2 : n = 0
    · subst h2
      simp [h1]
    · simp [h1, h2]
      omega
theorem RdC.sub {h : Heap} {a : Option Addr} {xs : List Value} (H : RdC h a xs) (lo n mx : Nat) (hn : mx = lo → n = 0) : RdC h (subA a lo mx 1) ((xs.drop lo).take n) := by
  unfold subA
  split
  · rename_i e
    rw [hn e, List.take_zero]
    cases a with
    | none => rfl
    | some a => intro j v hv; cases hv
  · cases a with
    | none =>
      have : xs = [] := H
      subst this
      simp [RdC]
    | some a =>
      intro j v hv
      rw [List.getElem?_take] at hv
      split at hv
      · rw [List.getElem?_drop] at hv
        have := H _ _ hv
        rw [Nat.mul_one]
        show cellAt h ((a.add lo).add j) = some v
        rw [addr_add_add]
        exact this
      · cases hv
theorem RdC.nilOr {h : Heap} {a : Option Addr} {xs : List Value} (H : RdC h a xs) {i : Nat} {v : Value} (hi : xs[i]? = some v) : ∃ b, a = some b ∧ cellAt h (b.add i) = some v := by
  cases a with
  | none =>
    have : xs = [] := H
    subst this
    simp at hi
  | some a => exact ⟨a, rfl, H i v hi⟩
theorem SlV_nat {a : Option Addr} {c sz lo hi mx : Nat} {K : Option Addr → Nat → Nat → Prop} (h1 : lo ≤ hi) (h2 : hi ≤ mx) (h3 : mx ≤ c) (hK : K (subA a lo mx sz) (hi - lo) (mx - lo)) : SlV a c sz (lo : Int) (hi : Int) (mx : Int) K := by
  refine ⟨by omega, by omega, by omega, by omega, ?_⟩
  simpa using hK
theorem IdxA_nat {a : Option Addr} {l i : Nat} {h : Heap} {xs : List Value} {v : Value} {K : Addr → Prop} (H : RdC h a xs) (hl : xs.length = l) (hi : xs[i]? = some v) (hK : ∀ b, a = some b → cellAt h (b.add i) = some v → K (b.add i)) :
    IdxA a l (i : Int) 1 K := by
  obtain ⟨b, hb, hc⟩ := H.nilOr hi
  have := (List.getElem?_eq_some_iff.1 hi).1
  refine ⟨b, hb, by omega, by omega, ?_⟩
  rw [Int.toNat_natCast, Nat.mul_one]
  exact hK b hb hc

/-! ### bytes -/
def nb (bs : List UInt8) : List Nat := bs.map UInt8.toNat
def B8 (l : List Nat) : Prop := ∀ n ∈ l, n < 256
theorem nb_B8 (bs : List UInt8) : B8 (nb bs) := fun b h => by
  obtain ⟨u, _, rfl⟩ := List.mem_map.1 h
  exact u.toNat_lt
def sb (s : ByteArray) : List Nat := nb s.data.toList
theorem sb_B8 (s : ByteArray) : B8 (sb s) := nb_B8 _
theorem sb_length (s : ByteArray) : (sb s).length = s.size := by rw [sb, nb, List.length_map]; rfl
theorem sb_cells (s : ByteArray) : s.data.toList.map bv = (sb s).map nv := by rw [sb, nb, List.map_map]; rfl
def ofN (ns : List Nat) : ByteArray := ⟨(ns.map UInt8.ofNat).toArray⟩
theorem sb_ofN {ns : List Nat} (h : B8 ns) : sb (ofN ns) = ns := by
  unfold sb ofN nb
  simp only [List.map_map]
  conv => rhs; rw [← List.map_id ns]
  apply List.map_congr_left
  intro n hn
  have := h n hn
  simp [UInt8.toNat_ofNat']
  omega
theorem sb_inj {s t : ByteArray} (h : sb s = sb t) : s = t := by
  have h2 : s.data.toList = t.data.toList := by
    have hi : ∀ (a b : List UInt8), nb a = nb b → a = b := by
      intro a
      induction a with
      | nil => intro b hb; cases b with
        | nil => rfl
        | cons x b => cases hb
      | cons x a ih => intro b hb; cases b with
        | nil => cases hb
        | cons y b =>
          simp only [nb, List.map_cons, List.cons.injEq] at hb
          rw [UInt8.toNat_inj.1 hb.1, ih b hb.2]
    exact hi _ _ h
  exact ByteArray.ext (Array.ext' h2)
theorem ofN_sb (s : ByteArray) : ofN (sb s) = s := sb_inj (sb_ofN (sb_B8 s))
theorem sb_append (s t : ByteArray) : sb (s ++ t) = sb s ++ sb t := by
  unfold sb nb
  rw [ByteArray.data_append, Array.toList_append, List.map_append]
theorem sb_empty : sb .empty = [] := rfl
theorem sb_extract (s : ByteArray) (i j : Nat) : sb (s.extract i j) = ((sb s).drop i).take (j - i) := by
  unfold sb nb
  rw [ByteArray.data_extract, Array.toList_extract, List.extract_eq_take_drop, List.map_take, List.map_drop]
theorem strEq_eq (a b : ByteArray) : strEq a b = decide (sb a = sb b) := by
  unfold strEq
  have e : ∀ x : ByteArray, x.toList = x.data.toList := fun x => by simp [ByteArray.toList_eq]
  rw [e, e]
  by_cases h : sb a = sb b
  · have := sb_inj h
    subst this
    simp
  · have : ¬ a.data.toList = b.data.toList := fun he => h (by unfold sb; rw [he])
    have h3 : ¬ a.data = b.data := fun he => this (by rw [he])
    simp [h, h3]
theorem bt_sb {s : ByteArray} {i n : Nat} (hi : (sb s)[i]? = some n) : bt s (i : Int) = (n : Int) := by
  unfold bt
  rw [Int.toNat_natCast]
  unfold sb nb at hi
  rw [List.getElem?_map] at hi
  cases hu : s.data.toList[i]? with
  | none => rw [hu] at hi; cases hi
  | some u =>
    rw [hu] at hi
    simp only [Option.map_some, Option.some.injEq] at hi
    subst hi
    rfl
theorem bytesIn_of {h : Heap} {a : Option Addr} {ns : List Nat} {l : Nat} (H : RdC h a (ns.map nv)) (hl : ns.length = l) (h8 : B8 ns) : BytesIn h a l (ofN ns) := by
  cases a with
  | none =>
    have : ns.map nv = [] := H
    rw [List.map_eq_nil_iff] at this
    subst this
    rfl
  | some a =>
    refine ⟨by rw [← sb_length, sb_ofN h8, hl], fun i hi => H i _ ?_⟩
    rw [List.getElem?_map, List.getElem?_eq_getElem (by omega)]
    have e : (ofN ns).data.toList = ns.map UInt8.ofNat := rfl
    have h9 := h8 _ (List.getElem_mem (l := ns) (by omega : i < ns.length))
    rw [e, List.getD_eq_getElem?_getD, List.getElem?_map, List.getElem?_eq_getElem (by omega)]
    simp only [Option.map_some, Option.getD_some, nv, Option.some.injEq, Value.int.injEq, true_and]
    simp [UInt8.toNat_ofNat']
    omega
theorem oneCell_nv (ns : List Nat) : ∀ u ∈ ns.map nv, u.oneCell' = true := by
  intro u hu
  obtain ⟨n, _, rfl⟩ := List.mem_map.1 hu
  rfl

/-- A slice of bytes into another of its type: the same, its block marked. -/
theorem convBytes_sat {P : Program} {h : Heap} {F : List HProp} {t e : TypeId} {b l c : Nat} {cells : Array Value} {K : Value → Heap → Prop} (ht : P.underlying t = some (.slice e)) (he : P.underlying e = some (.int .u8))
    (H : sat (pt b (.cells cells e (0, 0)) :: F) h) (hK : ∀ h', sat (pt b (.cells cells e (cells.size, cells.size + 1)) :: F) h' → K (.slice (some ⟨b, 0, none⟩) l c) h') :
    RunH P (Go.convert t t (.slice (some ⟨b, 0, none⟩) l c)) h K := by
  intro w hw
  subst hw
  have hb := H.get
  have hsh : w.shape? b = some (e, cells.size) := by
    unfold World.shape?
    rw [hb]
  refine ⟨.slice (some ⟨b, 0, none⟩) l c, w.freeze ⟨b, cells.size, none⟩ 1, ?_, ?_, ?_⟩
  · simp [convert, run_underlying ht, run_underlying he, markStringish, hsh, Result.andThen]
  · unfold World.freeze
    rw [if_neg (by decide)]
    exact ⟨rfl, rfl, rfl⟩
  · refine hK _ (H.upd _ ?_ ?_)
    · unfold World.freeze
      rw [if_neg (by decide)]
      show (w.heap.modify b _)[b]? = _
      rw [Array.getElem?_modify]
      simp [hb]
    · intro k hk _
      unfold World.freeze
      rw [if_neg (by decide)]
      show (w.heap.modify b _)[k]? = _
      rw [Array.getElem?_modify]
      simp [Ne.symm hk]

/-! ### slices of parts -/
def ownL {α : Type} (E : α → Value → HProp) (e : TypeId) (a : Option Addr) (l c : Nat) (xs : List α) : HProp :=
  exi fun vs : List Value => Many (pur (vs.length = xs.length) :: ownS e 1 a l c vs :: List.zipWith E xs vs)
section
variable {α : Type} {E : α → Value → HProp} {e : TypeId} {a : Option Addr} {l c : Nat} {xs : List α} {F : List HProp} {h : Heap}
theorem ownL_open (H : sat (ownL E e a l c xs :: F) h) : ∃ vs : List Value, vs.length = xs.length ∧ sat (ownS e 1 a l c vs :: (List.zipWith E xs vs ++ F)) h := by
  obtain ⟨vs, H⟩ := sat_exi.1 H
  have H2 := H.open
  obtain ⟨h1, H3⟩ := sat_pur.1 H2
  exact ⟨vs, h1, H3⟩
theorem ownL_shut {vs : List Value} (hl : vs.length = xs.length) (H : sat (ownS e 1 a l c vs :: (List.zipWith E xs vs ++ F)) h) : sat (ownL E e a l c xs :: F) h :=
  sat_exi.2 ⟨vs, sat.shut (sat_pur.2 ⟨hl, H⟩)⟩
theorem ownL_nil (E : α → Value → HProp) (e : TypeId) (H : sat F h) : sat (ownL E e none 0 0 [] :: F) h :=
  ownL_shut (vs := []) rfl (ownS_nil e 1 H)
theorem ownL_len (H : sat (ownL E e a l c xs :: F) h) : xs.length = l ∧ l ≤ c ∧ c ≤ maxLen := by
  obtain ⟨vs, hl, H2⟩ := ownL_open H
  obtain ⟨h1, h2, h3⟩ := ownS_len H2
  exact ⟨by rw [← hl, h1, Nat.mul_one], h2, h3⟩
theorem ownL_get (H : sat (ownL E e a l c xs :: F) h) {i : Nat} {x : α} (hi : xs[i]? = some x) : ∃ v b, a = some b ∧ cellAt h (b.add i) = some v ∧ ∃ F', sat (E x v :: F') h := by
  obtain ⟨vs, hl, H2⟩ := ownL_open H
  have hlt := (List.getElem?_eq_some_iff.1 hi).1
  obtain ⟨v, hv⟩ : ∃ v, vs[i]? = some v := ⟨_, List.getElem?_eq_getElem (by omega)⟩
  obtain ⟨b, hb, hc⟩ := (ownS_read H2).nilOr hv
  refine ⟨v, b, hb, hc, H2.pick (k := i + 1) ?_⟩
  rw [List.getElem?_cons_succ, List.getElem?_append_left (by rw [List.length_zipWith]; omega), List.getElem?_zipWith, hi, hv]
theorem swapMid {A B : HProp} {L M : List HProp} (H : sat (A :: (L ++ B :: M)) h) : sat (A :: B :: (L ++ M)) h := by
  have h2 : sat ((A :: L) ++ (B :: M)) h := H
  have h3 := (sat.shut h2).mv 1
  exact (sat.open ((h3).mv 1) : sat ((A :: L) ++ (B :: M)) h).mv 0 |> fun hh => by
    obtain ⟨r, ⟨r1, r2, hd, rfl, ha, hr⟩, hs⟩ := hh
    obtain ⟨q1, q2, hd2, rfl, hl, hbm⟩ := star_append.1 hr
    obtain ⟨p1, p2, hd3, rfl, hb, hm⟩ := hbm
    refine ⟨_, ⟨r1, _, hd, rfl, ha, ?_⟩, hs⟩
    have : sep (star L) (sep B (star M)) (union q1 (union p1 p2)) := ⟨q1, _, hd2, rfl, hl, p1, p2, hd3, rfl, hb, hm⟩
    exact sep_mono (fun _ h => h) (fun _ h => star_append.2 h) (sep_swap this)
theorem unswapMid {A B : HProp} {L M : List HProp} (H : sat (A :: B :: (L ++ M)) h) : sat (A :: (L ++ B :: M)) h := by
  obtain ⟨r, ⟨r1, r2, hd, rfl, ha, p1, p2, hd2, rfl, hb, hr⟩, hs⟩ := H
  obtain ⟨q1, q2, hd3, rfl, hl, hm⟩ := star_append.1 hr
  refine ⟨_, ⟨r1, _, hd, rfl, ha, ?_⟩, hs⟩
  have : sep B (sep (star L) (star M)) (union p1 (union q1 q2)) := ⟨p1, _, hd2, rfl, hb, q1, q2, hd3, rfl, hl, hm⟩
  exact star_append.2 (sep_swap this)
theorem ownL_push {P : Program} {t u ty : TypeId} {i : TypeInfo} {z v : Value} {a2 : Option Addr} {x : α} {c2 : Nat} {K : Value → Heap → Prop}
    (ht : P.underlying t = some (.slice e)) (hu : srcTy P u = true) (hi : P.info? e = some i) (hz : i.zero = some z) (hsz : i.size = 1) (hzs : z.cells.size = 1) (hm : l + 1 ≤ 9223372036854775807) (hb : (l + 1) * i.bytes ≤ 140737488355328)
    (H : sat (ownL E e a l c xs :: E x v :: F) h) (hv : v.oneCell' = true) (hr : RdC h a2 [v])
    (hK : ∀ a' c' h', sat (ownL E e a' (l + 1) c' (xs ++ [x]) :: F) h' → K (.slice a' (l + 1) c') h') :
    RunH P (Builtin.append_ #[t, u] ty #[.slice a l c, .slice a2 1 c2]) h K := by
  obtain ⟨vs, hl, H2⟩ := ownL_open H
  have H3 : sat (ownS e 1 a l c vs :: (List.zipWith E xs vs ++ E x v :: F)) h := H2
  rw [← hsz] at H3
  refine append_sat ht hu hi hz (by rw [hzs, hsz]) (by omega) H3 (n := 1) (ys := [v]) (srcOf_slice hr (by simp [hsz])) (by simpa using hv) hm hb (by unfold maxLen; omega) fun a' c' h' _ H4 => hK a' c' h' ?_
  rw [hsz] at H4
  refine ownL_shut (vs := vs ++ [v]) (by simp [hl]) ?_
  rw [List.zipWith_append hl.symm]
  simpa using H4
end

end Go.Proofs.Yticjjdhaikbdaaa
