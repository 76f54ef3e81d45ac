/- All's own function; ranges over All; Last; what no log answers. -/
import Derived.Test.YticjjdhaikbdaaaGreatMkMtI
import Derived.Test.YticjjdhaikbdaaaGreatMkTj
namespace Go.Proofs.YticjjdhaikbdaaaGreat
open Go Go.RowKit Go.MapKept
set_option linter.unusedVariables false
set_option linter.unusedSimpArgs false
open AF (Meta copyT topT nmI Ent IdOk MInv Live Has Upd Dirc)

/-- A range over a function that hands on a list's elements, each with what is owned anew; of the function's own things nothing is asked. -/
theorem range_all {P : Program} {f : FuncId} {first cap : Array Value} {np : Nat} {h : Heap} {B : Nat → (LoopState → Option Code → Obj) → List Value → Heap → (Value → Heap → Prop) → Prop} {A : Option Code → Heap → Prop} {α : Type}
    (s : List α) (Hand : α → List Value → HProp) (G : Nat → List HProp) (X : Code → HProp) (K0 : HProp) (H : sat (K0 :: G 0) h) (hnp : ∀ x args F h, sat (Hand x args :: F) h → args.length = np)
    (iter : ∀ (yf : Fn) (yp yc : Array Value) (G' : Nat → List HProp) (X' : HProp) (Out : Heap → Prop) (h1 : Heap), sat (K0 :: G' 0) h1 →
      (∀ (K : HProp) i x args h2, s[i]? = some x → sat (Hand x args :: K :: G' i) h2 → CallV P (.func yf yp yc) args h2 fun r h3 => ∃ go, r = .bool go ∧ (go = true → sat (K :: G' (i + 1)) h3) ∧ (go = false → sat [K, X'] h3)) →
      (∀ (K : HProp) h2, sat (K :: G' s.length) h2 → Out h2) → (∀ (K : HProp) h2, sat [K, X'] h2 → Out h2) → CallsH P f (first.toList ++ [.func yf yp yc] ++ cap.toList) h1 fun _ h' => Out h')
    (round : ∀ (K : HProp) i x args (L : Nat) (rec : LoopState → Option Code → Obj) (h2 : Heap) (Q : Value → Heap → Prop), s[i]? = some x → sat (pt L (rec .ready none) :: markD h.size :: Hand x args :: K :: G i) h2 →
      (∀ h3, sat (pt L (rec .busy none) :: markD h.size :: K :: G (i + 1)) h3 → h3[L]? = some (rec .busy none) ∧ Q (.bool true) (h3.setIfInBounds L (rec .ready none))) →
      (∀ j h3, sat (pt L (rec .busy none) :: markD h.size :: K :: [X j]) h3 → h3[L]? = some (rec .busy none) ∧ Q (.bool false) (h3.setIfInBounds L (rec .done (some j)))) → B L rec args h2 Q)
    (after : ∀ (K : HProp) h2, sat (markD h.size :: K :: G s.length) h2 → A none h2) (afterX : ∀ (K : HProp) j h2, sat (markD h.size :: K :: [X j]) h2 → A (some j) h2) :
    RangeFn P (.func (.func f) first cap) np none h B A := by
  intro rec hrec hy
  refine CallF_fn ?_
  have H3 := (H.push (.deferred (some []))).push (rec .ready none)
  rw [Array.size_push] at H3
  refine (iter _ _ _ (fun i => pt (h.size + 1) (rec .ready none) :: markD h.size :: G i) (exi fun j : Code => Many [pt (h.size + 1) (rec .done (some j)), markD h.size, X j])
    (fun h2 => ∃ st pend, h2[h.size + 1]? = some (rec st pend) ∧ st ≠ .busy ∧ A pend (h2.setIfInBounds (h.size + 1) (rec .exhausted pend))) _ (H3.mv 2) ?_ ?_ ?_).mono fun _ _ hh => hh
  · intro K i x args h2 hx H2
    refine CallV_yield ?_
    have HL := (H2.mv 2).get
    have H4 : sat (pt (h.size + 1) (rec .ready none) :: markD h.size :: Hand x args :: K :: G i) h2 := (H2.mv 3).mv 3
    refine hy _ _ _ (hnp _ _ _ _ H2) HL (round K i x args _ rec h2 _ hx H4 ?_ ?_)
    · intro h3 H3
      refine ⟨H3.get, true, rfl, fun _ => ?_, fun e => by cases e⟩
      exact (H3.set (rec .ready none)).mv 2
    · intro j h3 H3
      refine ⟨H3.get, false, rfl, (fun e => by cases e), fun _ => ?_⟩
      have H5 : sat (pt (h.size + 1) (rec .done (some j)) :: markD h.size :: X j :: [K]) _ := (H3.set (rec .done (some j))).ordT 4 [0, 1, 3, 2]
      exact (sat_exi.2 ⟨j, sat.shut (m := [_, _, _]) H5⟩ : sat (exi _ :: [K]) _).mv 1
  · intro K h2 H2
    have H5 := H2.mv 1
    refine ⟨.ready, none, H5.get, by decide, after K _ ?_⟩
    exact ((H5.set (rec .exhausted none)).drop.mv 1)
  · intro K h2 H2
    obtain ⟨j, H3⟩ := sat_exi.1 (H2.mv 1)
    have H4 := H3.open
    refine ⟨.done, some j, H4.get, by decide, afterX K j _ ?_⟩
    have H5 := (H4.set (rec .exhausted (some j))).drop
    exact H5.ordT 3 [0, 2, 1]

abbrev AllK (cb eb : Nat) (T : Ent) : HProp := Many [pt cb (.cells #[.map (some eb)] 129 (0, 0)), tabM Bs eb T]
abbrev HandA (x : Int × List Nat) (args : List Value) : HProp := exi fun q : Option Addr × Nat => Many [pur (args = [.int .i64 x.1, .slice q.1 x.2.length q.2]), ownS 5 1 q.1 x.2.length q.2 (x.2.map nv)]
theorem HandA_open {x : Int × List Nat} {args : List Value} {F : List HProp} {h : Heap} (H : sat (HandA x args :: F) h) : ∃ a c, args = [.int .i64 x.1, .slice a x.2.length c] ∧ sat (ownS 5 1 a x.2.length c (x.2.map nv) :: F) h := by
  obtain ⟨⟨a, c⟩, H2⟩ := sat_exi.1 H
  obtain ⟨e, H3⟩ := sat_pur.1 H2.open
  exact ⟨a, c, e, H3⟩
theorem HandA_len (x : Int × List Nat) (args : List Value) (F : List HProp) (h : Heap) (H : sat (HandA x args :: F) h) : args.length = 2 := by
  obtain ⟨a, c, rfl, _⟩ := HandA_open H
  rfl
theorem HandA_shut {x : Int × List Nat} {a : Option Addr} {c : Nat} {F : List HProp} {h : Heap} (H : sat (ownS 5 1 a x.2.length c (x.2.map nv) :: F) h) : sat (HandA x [.int .i64 x.1, .slice a x.2.length c] :: F) h :=
  sat_exi.2 ⟨(a, c), sat.shut (m := [_, _]) (sat_pur.2 ⟨rfl, H⟩)⟩
set_option maxHeartbeats 1000000 in
theorem F99_iter {cb eb : Nat} {T : Ent} (hT : T.length < 1099511627776) (hb : ∀ p ∈ T, p.2.length ≤ 140737488355328) (yf : Fn) (yp yc : Array Value) (G' : Nat → List HProp) (X' : HProp) (Out : Heap → Prop) (h1 : Heap) (H : sat (AllK cb eb T :: G' 0) h1)
    (round : ∀ (K : HProp) i x args h2, T[i]? = some x → sat (HandA x args :: K :: G' i) h2 → CallV Tryz.prog (.func yf yp yc) args h2 fun r h3 => ∃ go, r = .bool go ∧ (go = true → sat (K :: G' (i + 1)) h3) ∧ (go = false → sat [K, X'] h3))
    (fin : ∀ (K : HProp) h2, sat (K :: G' T.length) h2 → Out h2) (finX : ∀ (K : HProp) h2, sat [K, X'] h2 → Out h2) :
    CallsH Tryz.prog 99 [.func yf yp yc, .pointer (some ⟨cb, 0, none⟩)] h1 fun _ h' => Out h' := by
  apply F99_ok
  unfold F99
  refine Al_sat H fun b0 h2 H2 => ?_
  have H3 := (H2.mv 1).open
  refine VMp H3.get ?_
  refine (F91_rise (H3.mv 1) hT).mono ?_
  rintro v h3 ⟨kb, tb, a, c, s, rfl, hsk, hnd, H4⟩
  have hsl : s.length = T.length := by
    have := congrArg List.length hsk
    simpa using this
  refine ⟨_, rfl, ?_⟩
  refine range_iterK s (fun x => [.int .i64 x.1, x.2]) (fun i => riseT Bs kb tb eb a c 129 s i T) (fun i => pt cb (.cells #[.map (some eb)] 129 (0, 0)) :: pt b0 (.cells #[.func yf yp yc] 150 (0, 0)) :: G' i)
    (fun j => [pur (j = .ret), X']) H4 (fun _ => rfl) (fun yv G Out h1 hh r f => F146_rise (by omega) (fun _ => T) bs_slice yv G Out h1 hh r f) ?_ ?_ ?_
  · intro i x L rec h4 Q hx H5 hgo hstop
    obtain ⟨n, v⟩ := x
    have hi := (List.getElem?_eq_some_iff.1 hx).1
    have HL := H5.get
    have hn : (T.map (·.1))[i]? = some n := by rw [← hsk, List.getElem?_map, hx]; rfl
    obtain ⟨x, hg, hv⟩ := riseT_val (H5.mv 2) hx
    have hTi : T[i]? = some (n, x) := by
      have hu := tabM_up (riseT_tab (H5.mv 2))
      rw [List.getElem?_map] at hn
      cases hTi : T[i]? with
      | none => rw [hTi] at hn; cases hn
      | some p =>
        rw [hTi] at hn
        simp only [Option.map_some, Option.some.injEq] at hn
        have h2 : getT T p.1 = some p.2 := mem_getT hu (List.mem_of_getElem? hTi)
        rw [hn, hg] at h2
        cases h2
        rw [← hn]
    have H6 := riseT_keep (H5.mv 2) hx hg
    obtain ⟨va, vc, rfl, _⟩ := hv
    refine ⟨n, va, x.length, vc, rfl, HL, ?_⟩
    -- ro, rise, L, mark, cb, b0, G
    have H7 := (H6.mv 2).set (rec .busy none)
    -- L, ro, rise, mark, cb, b0, G
    refine ⟨.func yf yp yc, by rw [cellAt_of (H7.mv 5).get]; rfl, .func yf yp yc, rfl, ?_⟩
    have hRd := roP_get (H7.mv 1)
    obtain ⟨va2, vc2, e2, hR⟩ := hRd
    cases e2
    refine (F94_spec (xs := x) (H7.mv 1).drop hR rfl (hb _ (List.mem_of_getElem? hTi))).mono ?_
    rintro v h5 ⟨a5, c5, rfl, H8⟩
    -- own, L, rise, mark, cb, b0, G
    rw [DSl_slice]
    refine ⟨⟨.func yf yp yc, by rw [cellAt_of (H8.mv 5).get]; rfl, .func yf yp yc, rfl, rfl⟩, rfl, ?_⟩
    have H9 : sat (Many [pt L (rec .busy none), riseT Bs kb tb eb a c 129 s i T, markD h3.size, pt cb (.cells #[.map (some eb)] 129 (0, 0)), pt b0 (.cells #[.func yf yp yc] 150 (0, 0))] :: HandA (n, x) [.int .i64 n, .slice a5 x.length c5] :: G' i) h5 :=
      sat.shut (m := [_, _, _, _, _]) ((HandA_shut (x := (n, x)) H8).bk 5)
    refine (round _ i (n, x) _ h5 hTi (H9.mv 1)).mono ?_
    rintro r h6 ⟨go, rfl, h1, h2⟩
    rw [DB_bool]
    cases go with
    | true =>
      rw [Bool.not_true, cond_false]
      have H10 := (h1 rfl).open
      exact hgo h6 ((riseT_next (H10.mv 1)).ordT 5 [1, 2, 0, 3, 4])
    | false =>
      rw [Bool.not_false, cond_true]
      have H10 : sat [_, _, _, _, _, X'] h6 := (h2 rfl).open
      refine hstop .ret h6 ?_
      exact (sat_pur.2 ⟨rfl, H10.ord [0, 2, 5]⟩ : sat (pur _ :: _) h6).bk 2
  · intro h4 H5
    refine ⟨.inl rfl, fun _ => ?_, fun e => by cases e⟩
    rw [hsl] at H5
    refine ⟨H5.get, ?_⟩
    have H6 := (H5.set (.deferred none)).rest 4
    exact fin (pur True) _ (sat_pur.2 ⟨trivial, H6⟩)
  · intro j h4 H5
    obtain ⟨rfl, H6⟩ := sat_pur.1 (H5.mv 1)
    refine ⟨.inr rfl, (fun e => by cases e), fun _ => ⟨H6.get, ?_⟩⟩
    exact finX _ _ (H6.set (.deferred none))
section
variable {F : List HProp} {h : Heap} {b fsb : Nat} {M : Meta} {A : AF.FS}
theorem F34_spec (H : sat (logM b fsb M :: F) h) : CallsH Tryz.prog 34 [ptrV b] h fun v h' => ∃ cb eb, v = .func (.func 99) #[] #[.pointer (some ⟨cb, 0, none⟩)] ∧ sat (AllK cb eb M.entries :: logM b fsb M :: F) h' := by
  apply F34_ok
  unfold F34
  refine Al_sat H fun b0 h1 H1 => ?_
  refine Al_sat H1 fun b1 h2 H2 => ?_
  refine StCC H2 (by exact Nat.zero_lt_one) rfl fun h3 H3 => ?_
  rw [show (some (⟨b, 0, none⟩ : Addr)).isNone = false from rfl, Bool.not_false, cond_true]
  refine (F95_spec (H3.mv 2)).mono ?_
  rintro v h4 ⟨eb, rfl, H4⟩
  rw [DM_map]
  refine StCC (H4.mv 2) (by exact Nat.zero_lt_one) rfl fun h5 H5 => ?_
  refine ⟨b1, eb, rfl, sat.shut (m := [_, _]) ?_⟩
  have H6 := H5.ordT 4 [0, 1, 2]
  exact H6
end
end Go.Proofs.YticjjdhaikbdaaaGreat
