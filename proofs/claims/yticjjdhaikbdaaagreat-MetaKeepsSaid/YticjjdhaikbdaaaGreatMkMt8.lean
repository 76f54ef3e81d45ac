/- Ranges over tables by rising numbers, while the table changes. -/
import Derived.Test.YticjjdhaikbdaaaGreatMkMt2b
namespace Go.Proofs.YticjjdhaikbdaaaGreat
open Go Go.RowKit Go.MapKept
set_option linter.unusedVariables false
set_option linter.unusedSimpArgs false

theorem range_iterK {P : Program} {f : FuncId} {first cap : Array Value} {np : Nat} {h : Heap} {B : Nat → (LoopState → Option Code → Obj) → List Value → Heap → (Value → Heap → Prop) → Prop} {A : Option Code → Heap → Prop} {α : Type}
    (s : List α) (argsOf : α → List Value) (K : Nat → HProp) (G : Nat → List HProp) (X : Code → List HProp) (H : sat (K 0 :: G 0) h) (hnp : ∀ x, (argsOf x).length = np)
    (iter : ∀ (yv : Value) (G' : Nat → List HProp) (Out : Heap → Prop) (h1 : Heap), sat (K 0 :: G' 0) h1 →
      (∀ i x h2, s[i]? = some x → sat (K i :: G' i) h2 → CallV P yv (argsOf x) h2 fun r h3 => ∃ go, r = .bool go ∧ (go = true → sat (K (i + 1) :: G' (i + 1)) h3) ∧ (go = false → Out h3)) →
      (∀ h2, sat (K s.length :: G' s.length) h2 → Out h2) → CallsH P f (first.toList ++ [yv] ++ cap.toList) h1 fun _ h' => Out h')
    (round : ∀ i x (L : Nat) (rec : LoopState → Option Code → Obj) (h2 : Heap) (Q : Value → Heap → Prop), s[i]? = some x → sat (pt L (rec .ready none) :: markD h.size :: K i :: G i) h2 →
      (∀ h3, sat (pt L (rec .busy none) :: markD h.size :: K (i + 1) :: G (i + 1)) h3 → h3[L]? = some (rec .busy none) ∧ Q (.bool true) (h3.setIfInBounds L (rec .ready none))) →
      (∀ j h3, sat (pt L (rec .busy none) :: markD h.size :: X j) h3 → h3[L]? = some (rec .busy none) ∧ Q (.bool false) (h3.setIfInBounds L (rec .done (some j)))) → B L rec (argsOf x) h2 Q)
    (after : ∀ h2, sat (markD h.size :: K s.length :: G s.length) h2 → A none h2) (afterX : ∀ j h2, sat (markD h.size :: X j) h2 → A (some j) h2) :
    RangeFn P (.func (.func f) first cap) np none h B A := by
  intro rec hrec hy
  refine CallF_fn ?_
  have H3 := (H.push (.deferred (some []))).push (rec .ready none)
  rw [Array.size_push] at H3
  refine (iter _ (fun i => pt (h.size + 1) (rec .ready none) :: markD h.size :: G i)
    (fun h2 => ∃ st pend, h2[h.size + 1]? = some (rec st pend) ∧ st ≠ .busy ∧ A pend (h2.setIfInBounds (h.size + 1) (rec .exhausted pend))) _ (H3.mv 2) ?_ ?_).mono fun _ _ hh => hh
  · intro i x h2 hx H2
    refine CallV_yield ?_
    have HL := (H2.mv 1).get
    have H4 : sat (pt (h.size + 1) (rec .ready none) :: markD h.size :: K i :: G i) h2 := (H2.mv 2).mv 2
    refine hy _ _ _ (hnp x) HL (round i x _ rec h2 _ hx H4 ?_ ?_)
    · intro h3 H3
      refine ⟨H3.get, true, rfl, fun _ => ?_, fun e => by cases e⟩
      exact (H3.set (rec .ready none)).mv 2
    · intro j h3 H3
      refine ⟨H3.get, false, rfl, (fun e => by cases e), fun _ => ?_⟩
      have H5 := H3.set (rec .done (some j))
      exact ⟨.done, some j, H5.get, by decide, afterX j _ (H5.set (rec .exhausted (some j))).drop⟩
  · intro h2 H2
    have H5 := H2.mv 1
    refine ⟨.ready, none, H5.get, by decide, after _ ?_⟩
    exact (H5.set (rec .exhausted none)).drop.mv 1

section
variable {α : Type}
/-- What a range over a table's rising numbers stands on: the numbers, where the map is, the values yet to come, and the table as it is. -/
def riseT (R : α → Value → Heap → Prop) (kb tb mb : Nat) (a : Option Addr) (c : Nat) (ty : TypeId) (s : List (Int × Value)) (i : Nat) (T : List (Int × α)) : HProp :=
  exi fun m : List (Int × Value) => Many [RiseK kb tb mb a c ty (s.map (·.1)), pur (∀ j k v, i ≤ j → s[j]? = some (k, v) → lkM m k = some v), ownM (intKeys .i64) mb m, roP (TabIs R m T)]
variable {R : α → Value → Heap → Prop} {kb tb mb c i : Nat} {a : Option Addr} {ty : TypeId} {s : List (Int × Value)} {T : List (Int × α)} {F : List HProp} {h : Heap}
theorem riseT_open (H : sat (riseT R kb tb mb a c ty s i T :: F) h) : ∃ m, (∀ j k v, i ≤ j → s[j]? = some (k, v) → lkM m k = some v) ∧ sat (ownM (intKeys .i64) mb m :: RiseK kb tb mb a c ty (s.map (·.1)) :: roP (TabIs R m T) :: F) h := by
  obtain ⟨m, H2⟩ := sat_exi.1 H
  obtain ⟨h1, H3⟩ := sat_pur.1 (H2.open.mv 1)
  exact ⟨m, h1, H3.mv 1⟩
theorem riseT_shut {m : List (Int × Value)} (h1 : ∀ j k v, i ≤ j → s[j]? = some (k, v) → lkM m k = some v) (H : sat (ownM (intKeys .i64) mb m :: RiseK kb tb mb a c ty (s.map (·.1)) :: roP (TabIs R m T) :: F) h) : sat (riseT R kb tb mb a c ty s i T :: F) h := by
  have H2 : sat (pur (∀ j k v, i ≤ j → s[j]? = some (k, v) → lkM m k = some v) :: RiseK kb tb mb a c ty (s.map (·.1)) :: ownM (intKeys .i64) mb m :: roP (TabIs R m T) :: F) h := sat_pur.2 ⟨h1, H.mv 1⟩
  exact sat_exi.2 ⟨m, sat.shut (m := [_, _, _, _]) (H2.mv 1)⟩
theorem riseT_next (H : sat (riseT R kb tb mb a c ty s i T :: F) h) : sat (riseT R kb tb mb a c ty s (i + 1) T :: F) h := by
  obtain ⟨m, h1, H2⟩ := riseT_open H
  exact riseT_shut (fun j k v hj hs => h1 j k v (by omega) hs) H2
theorem riseT_tab (H : sat (riseT R kb tb mb a c ty s i T :: F) h) : sat (tabM R mb T :: F) h := by
  obtain ⟨m, h1, H2⟩ := riseT_open H
  exact tabM_shut ((H2.mv 1).drop)
theorem riseT_val {k : Int} {v : Value} (H : sat (riseT R kb tb mb a c ty s i T :: F) h) (hs : s[i]? = some (k, v)) : ∃ x, getT T k = some x ∧ R x v h := by
  obtain ⟨m, h1, H2⟩ := riseT_open H
  have I := roP_get (H2.mv 2)
  obtain ⟨x, hx, hr⟩ := I.vals k v (lkM_in (h1 i k v (Nat.le_refl _) hs))
  exact ⟨x, mem_getT I.up hx, hr⟩
theorem riseT_keep {k : Int} {v : Value} {x : α} (H : sat (riseT R kb tb mb a c ty s i T :: F) h) (hs : s[i]? = some (k, v)) (hx : getT T k = some x) : sat (roP (R x v) :: riseT R kb tb mb a c ty s i T :: F) h := by
  obtain ⟨m, h1, H2⟩ := riseT_open H
  have H3 := roP_dup (H2.mv 2)
  have H4 := roP_mono (S := R x v) (fun h I => by
    obtain ⟨y, hy, hr⟩ := I.vals k v (lkM_in (h1 i k v (Nat.le_refl _) hs))
    have := mem_getT I.up hy
    rw [hx] at this
    cases this
    exact hr) H3
  exact (riseT_shut h1 (H4.ordT 4 [2, 3, 1, 0])).mv 1
theorem nodup_ne {s : List (Int × Value)} (hn : (s.map (·.1)).Nodup) {i j : Nat} {k k' : Int} {v v' : Value} (h1 : s[i]? = some (k, v)) (h2 : s[j]? = some (k', v')) (hij : i < j) : k' ≠ k := by
  intro e
  have a1 : (s.map (·.1))[i]? = some k := by rw [List.getElem?_map, h1]; rfl
  have a2 : (s.map (·.1))[j]? = some k := by rw [List.getElem?_map, h2, ← e]; rfl
  obtain ⟨b1, c1⟩ := List.getElem?_eq_some_iff.1 a1
  obtain ⟨b2, c2⟩ := List.getElem?_eq_some_iff.1 a2
  have := List.pairwise_iff_getElem.1 hn i j b1 b2 hij
  rw [c1, c2] at this
  exact this rfl
theorem lkM_del {m : List (Int × Value)} {k k' : Int} (h : k' ≠ k) : lkM (delM m k) k' = lkM m k' := by
  unfold lkM delM
  congr 1
  induction m with
  | nil => rfl
  | cons p m ih =>
    rw [List.filter_cons]
    by_cases e : p.1 = k
    · have e2 : ¬ p.1 = k' := fun e2 => h (by rw [← e2, e])
      simp only [e, decide_true, Bool.not_true, Bool.false_eq_true, if_false, List.find?_cons]
      rw [ih]
      have : decide (k = k') = false := decide_eq_false (Ne.symm h)
      rw [this]
    · simp only [e, decide_false, Bool.not_false, if_true, List.find?_cons]
      rw [ih]
theorem lkM_upd {m : List (Int × Value)} {k k' : Int} {v : Value} (hn : ((updM m k v).map (·.1)).Nodup) (hn2 : (m.map (·.1)).Nodup) (h : k' ≠ k) {u : Value} (hl : lkM m k' = some u) : lkM (updM m k v) k' = some u := by
  have h1 := lkM_in hl
  have h2 : (k', u) ∈ updM m k v := updM_in.2 (.inr ⟨h, h1⟩)
  cases he : lkM (updM m k v) k' with
  | none => exact absurd (List.mem_map.2 ⟨_, h2, rfl⟩) (lkM_no he)
  | some w =>
    have h3 := lkM_in he
    have : (k', w) = (k', u) := by
      obtain ⟨i, hi⟩ := List.mem_iff_getElem?.1 h3
      obtain ⟨j, hj⟩ := List.mem_iff_getElem?.1 h2
      rcases Nat.lt_trichotomy i j with hh | hh | hh
      · exact absurd rfl (nodup_ne hn hi hj hh)
      · subst hh; rw [hi] at hj; cases hj; rfl
      · exact absurd rfl (nodup_ne hn hj hi hh)
    cases this
    rfl
theorem riseT_del {P : Program} {ty1 ty2 kt et t : TypeId} {k : Int} {v : Value} {K : Value → Heap → Prop} (hT : P.underlying ty1 = some (.map kt et)) (hd : P.underlying kt = some (.int .i64)) (hn : (s.map (·.1)).Nodup) (hs : s[i]? = some (k, v)) (H : sat (riseT R kb tb mb a c ty s i T :: F) h)
    (hK : ∀ h', sat (riseT R kb tb mb a c ty s (i + 1) (delT k T) :: F) h' → K (.tuple #[]) h') : RunH P (Builtin.delete_ #[ty1, ty2] t #[.map (some mb), .int .i64 k]) h K := by
  obtain ⟨m, h1, H2⟩ := riseT_open H
  refine delete_sat (E := intKeys .i64) (k := k) hT hd H2 fun h' H3 => hK h' (riseT_shut (m := delM m k) (fun j k' v' hj hs' => ?_) ?_)
  · rw [lkM_del (nodup_ne hn hs hs' (by omega))]
    exact h1 j k' v' (by omega) hs'
  · exact (roP_mono (fun _ hh => hh.del k) (H3.mv 2)).bk 2
theorem riseT_set {P : Program} {ty1 kt et : TypeId} {k : Int} {v u : Value} {x : α} {K : Heap → Prop} (hT : P.underlying ty1 = some (.map kt et)) (hd : P.underlying kt = some (.int .i64)) (hn : (s.map (·.1)).Nodup) (hs : s[i]? = some (k, v)) (H : sat (riseT R kb tb mb a c ty s i T :: roP (R x u) :: F) h)
    (hK : ∀ h', sat (riseT R kb tb mb a c ty s (i + 1) (setT k x T) :: F) h' → K h') : RunU P (Instr.mapUpdate ty1 (.map (some mb)) (.int .i64 k) u) h K := by
  obtain ⟨m, h1, H2⟩ := riseT_open H
  have hm := ownM_nodup H2
  refine mapUpdate_sat (E := intKeys .i64) (k := k) hT hd H2 fun h' H3 => hK h' (riseT_shut (m := updM m k u) (fun j k' v' hj hs' => ?_) ?_)
  · exact lkM_upd (ownM_nodup H3) hm (nodup_ne hn hs hs' (by omega)) (h1 j k' v' (by omega) hs')
  · -- m, Rise, TabIs, R, F
    exact (roP_mono (fun _ hh => hh.1.set hh.2) (roP_and (H3.ordT 4 [2, 3, 0, 1]))).bk 2
/-- The start: the numbers sorted are the table's. -/
theorem riseT_start {m : List (Int × Value)} (H : sat (RiseK kb tb mb a c ty (sortI (m.map (·.1))) :: ownM (intKeys .i64) mb m :: roP (TabIs R m T) :: F) h) :
    ∃ s : List (Int × Value), s.map (·.1) = T.map (·.1) ∧ (s.map (·.1)).Nodup ∧ sat (riseT R kb tb mb a c ty s 0 T :: F) h := by
  have I := roP_get (H.mv 2)
  have hn := ownM_nodup (H.mv 1)
  have e : sortI (m.map (·.1)) = T.map (·.1) := sortI_eq (I.perm hn) (List.pairwise_map.2 I.up)
  have hs : (T.map fun p => (p.1, (lkM m p.1).getD (.bool false))).map (·.1) = T.map (·.1) := by
    rw [List.map_map]
    rfl
  refine ⟨T.map fun p => (p.1, (lkM m p.1).getD (.bool false)), hs, by rw [hs]; exact I.up.nodup, ?_⟩
  rw [e, ← hs] at H
  refine riseT_shut (fun j k v _ hj => ?_) (H.mv 1)
  rw [List.getElem?_map] at hj
  cases hT : T[j]? with
  | none => rw [hT] at hj; cases hj
  | some p =>
    rw [hT] at hj
    simp only [Option.map_some, Option.some.injEq, Prod.mk.injEq] at hj
    obtain ⟨rfl, rfl⟩ := hj
    rcases I.look p.1 with ⟨_, h2⟩ | ⟨v, x, h1, _, _⟩
    · exact absurd rfl (getT_none.1 h2 p (List.mem_of_getElem? hT))
    · rw [h1]
      rfl
end
/-- The range's own function. -/
theorem F146_rise {α : Type} {R : α → Value → Heap → Prop} {kb tb mb : Nat} {a : Option Addr} {c : Nat} {s : List (Int × Value)} (hlen : s.length < 1099511627776) (Ts : Nat → List (Int × α)) (hv : ∀ x (v : Value) h, R x v h → ∃ (a : Option Addr) (l c : Nat), v = .slice a l c)
    (yv : Value) (G : Nat → List HProp) (Out : Heap → Prop) (h1 : Heap) (H : sat (riseT R kb tb mb a c 129 s 0 (Ts 0) :: G 0) h1)
    (round : ∀ i x h2, s[i]? = some x → sat (riseT R kb tb mb a c 129 s i (Ts i) :: G i) h2 → CallV Tryz.prog yv [.int .i64 x.1, x.2] h2 fun r h3 => ∃ go, r = .bool go ∧ (go = true → sat (riseT R kb tb mb a c 129 s (i + 1) (Ts (i + 1)) :: G (i + 1)) h3) ∧ (go = false → Out h3))
    (fin : ∀ h2, sat (riseT R kb tb mb a c 129 s s.length (Ts s.length) :: G s.length) h2 → Out h2) :
    CallsH Tryz.prog 146 [yv, .pointer (some ⟨kb, 0, none⟩), .pointer (some ⟨tb, 0, none⟩)] h1 fun _ h' => Out h' := by
  apply F146_ok
  unfold F146
  have hsl : (s.map (·.1)).length = s.length := List.length_map _
  obtain ⟨m0, _, H0⟩ := riseT_open H
  have H0' := (H0.mv 1).open
  refine ⟨.slice a (s.map (·.1)).length c, by rw [cellAt_of H0'.get]; rfl, ?_⟩
  show DSl (.slice a (s.map (·.1)).length c) _
  rw [DSl_slice, hsl]
  refine LoopH.upto s.length (fun i (s0 : Int) h2 => s0 = (i : Int) ∧ i ≤ s.length ∧ sat (riseT R kb tb mb a c 129 s i (Ts i) :: G i) h2) (fun s0 => s.length - s0.toNat) (fun i s0 h2 hh => ⟨hh.2.1, by rw [hh.1]; omega⟩) ⟨rfl, Nat.zero_le _, H⟩ ?_ ?_
  · rintro i s0 h2 again hi ⟨rfl, _, H2⟩ go
    rw [decide_eq_true (show ((i : Int) < (s.length : Int)) by omega), cond_true]
    obtain ⟨⟨k, v⟩, hx⟩ : ∃ x, s[i]? = some x := ⟨_, List.getElem?_eq_getElem hi⟩
    have hki : (s.map (·.1))[i]? = some k := by rw [List.getElem?_map, hx]; rfl
    obtain ⟨x, _, hR⟩ := riseT_val H2 hx
    obtain ⟨m, hl, H3⟩ := riseT_open H2
    have H4 := (H3.mv 1).open
    refine IdxA_nat (v := iv k) (ownS_read (H4.mv 2)) (by rw [List.length_map, hsl]) (by rw [List.getElem?_map, hki]; rfl) fun b hb hc => ?_
    refine ⟨iv k, hc, k, rfl, ?_⟩
    refine ⟨.map (some mb), by rw [cellAt_of (H4.mv 1).get]; rfl, ?_⟩
    show DM (.map (some mb)) _
    rw [DM_map]
    obtain ⟨es, clock, hm, hes⟩ := mapEs_ownM H3
    obtain ⟨f, hf, hl2, _⟩ := hm.find k
    refine ⟨es, hes, f, hf, ?_⟩
    have e1 : Option.map (fun x : Nat × Value => x.2) f = some v := by
      rw [← hl i k v (Nat.le_refl _) hx]
      exact hl2
    rw [e1]
    simp only [Option.getD_some]
    obtain ⟨va, vl, vc, rfl⟩ := hv x v h2 hR
    rw [DSl_slice]
    refine (round i (k, _) h2 hx H2).mono ?_
    rintro r h3 ⟨g, rfl, hg, hs⟩
    rw [DB_bool]
    cases g with
    | true =>
      rw [Bool.not_true, cond_false, wrap64_succ (by omega)]
      exact go _ _ ⟨rfl, by omega, hg rfl⟩
    | false =>
      rw [Bool.not_false, cond_true]
      exact hs rfl
  · rintro s0 h2 again ⟨rfl, _, H2⟩
    rw [decide_eq_false (by omega), cond_false]
    exact fin h2 H2
theorem F91_rise {α : Type} {R : α → Value → Heap → Prop} {mb : Nat} {T : List (Int × α)} {h : Heap} {F : List HProp} (H : sat (tabM R mb T :: F) h) (hmax : T.length < 1099511627776) :
    CallsH Tryz.prog 91 [.map (some mb)] h fun v h' => ∃ (kb tb : Nat) (a : Option Addr) (c : Nat) (s : List (Int × Value)), v = .func (.func 146) #[] #[.pointer (some ⟨kb, 0, none⟩), .pointer (some ⟨tb, 0, none⟩)] ∧
      s.map (·.1) = T.map (·.1) ∧ (s.map (·.1)).Nodup ∧ sat (riseT R kb tb mb a c 129 s 0 T :: F) h' := by
  obtain ⟨m, H2⟩ := tabM_open H
  have hl := (roP_get (H2.mv 1)).length (ownM_nodup H2)
  refine (F91_spec H2 (by omega)).mono ?_
  rintro v h1 ⟨kb, tb, a, c, rfl, H3⟩
  obtain ⟨s, h1, h2, H4⟩ := riseT_start H3
  exact ⟨kb, tb, a, c, s, rfl, h1, h2, H4⟩
/-- The range's own function. -/
theorem F180_rise {α : Type} {R : α → Value → Heap → Prop} {kb tb mb : Nat} {a : Option Addr} {c : Nat} {s : List (Int × Value)} (hlen : s.length < 1099511627776) (Ts : Nat → List (Int × α)) (hv : ∀ x (v : Value) h, R x v h → ∃ b : Bool, v = .bool b)
    (yv : Value) (G : Nat → List HProp) (Out : Heap → Prop) (h1 : Heap) (H : sat (riseT R kb tb mb a c 131 s 0 (Ts 0) :: G 0) h1)
    (round : ∀ i x h2, s[i]? = some x → sat (riseT R kb tb mb a c 131 s i (Ts i) :: G i) h2 → CallV Tryz.prog yv [.int .i64 x.1, x.2] h2 fun r h3 => ∃ go, r = .bool go ∧ (go = true → sat (riseT R kb tb mb a c 131 s (i + 1) (Ts (i + 1)) :: G (i + 1)) h3) ∧ (go = false → Out h3))
    (fin : ∀ h2, sat (riseT R kb tb mb a c 131 s s.length (Ts s.length) :: G s.length) h2 → Out h2) :
    CallsH Tryz.prog 180 [yv, .pointer (some ⟨kb, 0, none⟩), .pointer (some ⟨tb, 0, none⟩)] h1 fun _ h' => Out h' := by
  apply F180_ok
  unfold F180
  have hsl : (s.map (·.1)).length = s.length := List.length_map _
  obtain ⟨m0, _, H0⟩ := riseT_open H
  have H0' := (H0.mv 1).open
  refine ⟨.slice a (s.map (·.1)).length c, by rw [cellAt_of H0'.get]; rfl, ?_⟩
  show DSl (.slice a (s.map (·.1)).length c) _
  rw [DSl_slice, hsl]
  refine LoopH.upto s.length (fun i (s0 : Int) h2 => s0 = (i : Int) ∧ i ≤ s.length ∧ sat (riseT R kb tb mb a c 131 s i (Ts i) :: G i) h2) (fun s0 => s.length - s0.toNat) (fun i s0 h2 hh => ⟨hh.2.1, by rw [hh.1]; omega⟩) ⟨rfl, Nat.zero_le _, H⟩ ?_ ?_
  · rintro i s0 h2 again hi ⟨rfl, _, H2⟩ go
    rw [decide_eq_true (show ((i : Int) < (s.length : Int)) by omega), cond_true]
    obtain ⟨⟨k, v⟩, hx⟩ : ∃ x, s[i]? = some x := ⟨_, List.getElem?_eq_getElem hi⟩
    have hki : (s.map (·.1))[i]? = some k := by rw [List.getElem?_map, hx]; rfl
    obtain ⟨x, _, hR⟩ := riseT_val H2 hx
    obtain ⟨m, hl, H3⟩ := riseT_open H2
    have H4 := (H3.mv 1).open
    refine IdxA_nat (v := iv k) (ownS_read (H4.mv 2)) (by rw [List.length_map, hsl]) (by rw [List.getElem?_map, hki]; rfl) fun b hb hc => ?_
    refine ⟨iv k, hc, k, rfl, ?_⟩
    refine ⟨.map (some mb), by rw [cellAt_of (H4.mv 1).get]; rfl, ?_⟩
    show DM (.map (some mb)) _
    rw [DM_map]
    obtain ⟨es, clock, hm, hes⟩ := mapEs_ownM H3
    obtain ⟨f, hf, hl2, _⟩ := hm.find k
    refine ⟨es, hes, f, hf, ?_⟩
    have e1 : Option.map (fun x : Nat × Value => x.2) f = some v := by
      rw [← hl i k v (Nat.le_refl _) hx]
      exact hl2
    rw [e1]
    simp only [Option.getD_some]
    obtain ⟨vb, rfl⟩ := hv x v h2 hR
    rw [DB_bool]
    refine (round i (k, _) h2 hx H2).mono ?_
    rintro r h3 ⟨g, rfl, hg, hs⟩
    rw [DB_bool]
    cases g with
    | true =>
      rw [Bool.not_true, cond_false, wrap64_succ (by omega)]
      exact go _ _ ⟨rfl, by omega, hg rfl⟩
    | false =>
      rw [Bool.not_false, cond_true]
      exact hs rfl
  · rintro s0 h2 again ⟨rfl, _, H2⟩
    rw [decide_eq_false (by omega), cond_false]
    exact fin h2 H2
theorem F153_rise {α : Type} {R : α → Value → Heap → Prop} {mb : Nat} {T : List (Int × α)} {h : Heap} {F : List HProp} (H : sat (tabM R mb T :: F) h) (hmax : T.length < 1099511627776) :
    CallsH Tryz.prog 153 [.map (some mb)] h fun v h' => ∃ (kb tb : Nat) (a : Option Addr) (c : Nat) (s : List (Int × Value)), v = .func (.func 180) #[] #[.pointer (some ⟨kb, 0, none⟩), .pointer (some ⟨tb, 0, none⟩)] ∧
      s.map (·.1) = T.map (·.1) ∧ (s.map (·.1)).Nodup ∧ sat (riseT R kb tb mb a c 131 s 0 T :: F) h' := by
  obtain ⟨m, H2⟩ := tabM_open H
  have hl := (roP_get (H2.mv 1)).length (ownM_nodup H2)
  refine (F153_spec H2 (by omega)).mono ?_
  rintro v h1 ⟨kb, tb, a, c, rfl, H3⟩
  obtain ⟨s, h1, h2, H4⟩ := riseT_start H3
  exact ⟨kb, tb, a, c, s, rfl, h1, h2, H4⟩

end Go.Proofs.YticjjdhaikbdaaaGreat
