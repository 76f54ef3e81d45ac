/- Fold, whole. -/
import Derived.Test.YticjjdhaikbdaaaGreatMkMtD
namespace Go.Proofs.YticjjdhaikbdaaaGreat
open Go Go.RowKit Go.MapKept
set_option linter.unusedVariables false
set_option linter.unusedSimpArgs false
open AF (Meta copyT topT nmI Ent)
open Hex (digs)

section
variable {F : List HProp} {h : Heap} {b fsb : Nat} {M : Meta} {A : AF.FS}
theorem topT_snoc {α : Type} {l : List (Int × α)} {p : Int × α} (hu : UpT (l ++ [p])) (h0 : 0 ≤ p.1) : topT (l ++ [p]) = p.1 := by
  have e : topT (l ++ [p]) = max (topT l) p.1 := by
    unfold AF.topT
    rw [List.map_append, List.foldl_append]
    rfl
  rw [e]
  have h1 : topT l < p.1 := by
    rcases Int.lt_or_le (-1) (topT l) with h | h
    · obtain ⟨q, hq, e2⟩ := AF.top_mem h
      rw [← e2]
      exact (List.pairwise_append.1 hu).2.2 q hq p (by simp)
    · omega
  omega
theorem upTo_take {E : Ent} {m : Int} (hu : UpT E) {i : Nat} (h1 : ∀ j p, j < i → E[j]? = some p → p.1 ≤ m) (h2 : ∀ j p, i ≤ j → E[j]? = some p → m < p.1) : upTo E m = E.take i := by
  unfold upTo
  conv => lhs; rw [← List.take_append_drop i E]
  rw [List.filter_append]
  have e1 : (E.take i).filter (fun p => decide (p.1 ≤ m)) = E.take i := by
    apply List.filter_eq_self.2
    intro p hp
    obtain ⟨j, hj⟩ := List.mem_iff_getElem?.1 hp
    have hji : j < i := by
      have := (List.getElem?_eq_some_iff.1 hj).1
      rw [List.length_take] at this
      omega
    rw [List.getElem?_take_of_lt hji] at hj
    exact decide_eq_true (h1 j p hji hj)
  have e2 : (E.drop i).filter (fun p => decide (p.1 ≤ m)) = [] := by
    apply List.filter_eq_nil_iff.2
    intro p hp
    obtain ⟨j, hj⟩ := List.mem_iff_getElem?.1 hp
    rw [List.getElem?_drop] at hj
    have := h2 (i + j) p (by omega) hj
    simp
    omega
  rw [e1, e2, List.append_nil]
/-- What stands behind so many rounds of the loop over the entries. -/
def foldG (b0 b1 b2 b fsb : Nat) (m : Int) (M : Meta) (A : AF.FS) (F : List HProp) (U : Ent) : List HProp :=
  pt b0 (.cells #[.int .i64 m] 2 (0, 0)) :: pt b1 (.cells #[.int .i64 (topT U)] 2 (0, 0)) :: (exi fun q : Option Addr × Nat => Many [pt b2 (.cells #[.slice q.1 U.length q.2] 144 (0, 0)), ownS 146 2 q.1 U.length q.2 ((psE U).flatMap pairC)]) :: logM b fsb M :: fsP fsb A :: F
set_option maxHeartbeats 1000000 in
theorem F31_spec {upto : Int} (W : A.WF) (hs : A.steps + M.S.length + M.Fo.length + 30 < 1099511627776) (hd : M.dir.size < 4611686018427387904)
    (hE : ∀ p ∈ M.entries, 0 ≤ p.1 ∧ B8 p.2 ∧ p.2.length ≤ 1000000000) (hEl : M.entries.length < 1000000000) (hsz : ∀ m, (AF.pairsE (upTo M.entries m)).length ≤ 1099511627776)
    (H : sat (logM b fsb M :: fsP fsb A :: F) h) : CallsH Tryz.prog 31 [ptrV b, .int .i64 upto] h (Came b fsb A (M.S.length + M.Fo.length + 10) (M.fold A upto) F) := by
  apply F31_ok
  unfold F31
  rw [show (some (⟨b, 0, none⟩ : Addr)).isNone = false from rfl, cond_false]
  refine (F89_spec H).mono ?_
  rintro v h1 ⟨rfl, H1⟩
  rw [DI_int]
  generalize hm : max upto (topT M.Fo) = m
  have em : (if topT M.Fo > upto then topT M.Fo else upto) = m := by rw [← hm]; split <;> omega
  rw [em]
  refine Al_sat H1 fun b0 h2 H2 => ?_
  refine StCC H2 (show 0 < 1 by decide) rfl fun h3 H3 => ?_
  refine Al_sat H3 fun b1 h4 H4 => ?_
  refine StCC H4 (show 0 < 1 by decide) rfl fun h5 H5 => ?_
  refine Al_sat H5 fun b2 h6 H6 => ?_
  -- b2, b1, b0, log, fs, F
  refine (F95_spec (H6.mv 3)).mono ?_
  rintro v h7 ⟨eb, rfl, H7⟩
  rw [DM_map]
  have hu := tabM_up H7
  refine (F91_rise H7 (by omega)).mono ?_
  rintro v h8 ⟨kb, tb, a, c, s, rfl, hsk, hnd, H8⟩
  have hsl : s.length = M.entries.length := by
    have := congrArg List.length hsk
    simpa using this
  refine ⟨_, rfl, ?_⟩
  -- rise, log, b2, b1, b0, fs, F
  have H9 : sat (riseT Bs kb tb eb a c 129 s 0 M.entries :: pur (∀ j p, j < 0 → M.entries[j]? = some p → p.1 ≤ m) :: foldG b0 b1 b2 b fsb m M A F (M.entries.take 0)) h8 := by
    have K1 := ownS_nil 146 2 (H8.ordT 6 [2, 4, 3, 1, 5, 0])
    have K2 := exi_in (A := fun q : Option Addr × Nat => Many [pt b2 (.cells #[.slice q.1 (M.entries.take 0).length q.2] 144 (0, 0)), ownS 146 2 q.1 (M.entries.take 0).length q.2 ((psE (M.entries.take 0)).flatMap pairC)]) (none, 0) (sat.shut (m := [_, _]) (K1.mv 1))
    have K3 : sat (pur (∀ j p, j < 0 → M.entries[j]? = some p → p.1 ≤ m) :: _) h8 := sat_pur.2 ⟨fun j p hj => absurd hj (by omega), K2⟩
    -- pur, exi, b0, b1, log, fs, rise
    exact K3.ordT 7 [6, 0, 2, 3, 1, 4, 5]
  -- both ways out of the loop come to one text
  have tail : ∀ (U : Ent) (h9 : Heap), upTo M.entries m = U → sat (markD h8.size :: foldG b0 b1 b2 b fsb m M A F U) h9 → foldB (some ⟨b, 0, none⟩) b1 b2 h8.size h9 (Came b fsb A (M.S.length + M.Fo.length + 10) (M.fold A upto) F) := by
    intro U h9 hU K
    obtain ⟨⟨pa, pc⟩, K2⟩ := sat_exi.1 (K.mv 3)
    have K3 := K2.open
    -- b2, own, D, b0, b1, log, fs, F
    have hU2 : upTo M.entries (topT U) = U := by
      rw [← hU]
      unfold upTo
      apply List.filter_congr
      intro p hp
      by_cases h : p.1 ≤ m
      · have hin : p ∈ M.entries.filter (fun p => decide (p.1 ≤ m)) := List.mem_filter.2 ⟨hp, by simpa using h⟩
        have := AF.le_top hin
        simp [h, this]
      · have : ¬ p.1 ≤ topT (M.entries.filter fun p => decide (p.1 ≤ m)) := by
          intro hh
          have h0 := (hE p hp).1
          obtain ⟨q, hq, e⟩ := AF.top_mem (T := M.entries.filter fun p => decide (p.1 ≤ m)) (by omega)
          have := (List.mem_filter.1 hq).2
          simp only [decide_eq_true_eq] at this
          omega
        simp [h, this]
    refine foldB_spec (F := F) (fsb := fsb) (last := topT U) (pa := pa) (pc := pc) W hs hd (fun p hp => (hE p hp).2) hEl (hsz _) ?_ ?_
    · rw [hU2]
      exact K3.ordT 7 [4, 0, 1, 2, 5, 6]
    · intro v h' hc
      have e : M.fold A upto = foldS M A (topT U) := by rw [fold_eq, hm, hU]
      rw [e]
      exact hc
  refine range_iterK s (fun x => [.int .i64 x.1, x.2]) (fun i => riseT Bs kb tb eb a c 129 s i M.entries) (fun i => pur (∀ j p, j < i → M.entries[j]? = some p → p.1 ≤ m) :: foldG b0 b1 b2 b fsb m M A F (M.entries.take i))
    (fun j => pur (j = .exit 0) :: foldG b0 b1 b2 b fsb m M A F (upTo M.entries m)) H9 (fun _ => rfl)
    (fun yv G' Out h1 hh r f => F146_rise (by omega) (fun _ => M.entries) bs_slice yv G' Out h1 hh r f) ?_ ?_ ?_
  · intro i x L rec h9 Q hx K hgo hstop
    obtain ⟨n, v⟩ := x
    have hi := (List.getElem?_eq_some_iff.1 hx).1
    have HL := K.get
    obtain ⟨hle, K1⟩ := sat_pur.1 (K.mv 3)
    -- L, D, rise, b0, b1, exi, log, fs, F
    obtain ⟨x, hgx, va, vc, rfl, hR⟩ := riseT_val (K1.mv 2) hx
    have hki : (M.entries.map (·.1))[i]? = some n := by rw [← hsk, List.getElem?_map, hx]; rfl
    have hei : M.entries[i]? = some (n, x) := by
      rw [List.getElem?_map] at hki
      cases he : M.entries[i]? with
      | none => rw [he] at hki; cases hki
      | some p =>
        obtain ⟨p1, p2⟩ := p
        rw [he] at hki
        simp only [Option.map_some, Option.some.injEq] at hki
        subst hki
        have := mem_getT hu (List.mem_of_getElem? he)
        rw [hgx] at this
        cases this
        rfl
    refine ⟨n, va, x.length, vc, rfl, HL, ?_⟩
    have K2 := K1.set (rec .busy none)
    refine VIn (K2.mv 3).get ?_
    by_cases hn : n > m
    · rw [decide_eq_true hn, cond_true]
      have hU : upTo M.entries m = M.entries.take i := by
        refine upTo_take hu hle fun j p hj hp => ?_
        rcases Nat.lt_or_ge i j with hij | hij
        · have hp1 := List.pairwise_iff_getElem.1 hu
          obtain ⟨a1, b1⟩ := List.getElem?_eq_some_iff.1 hei
          obtain ⟨a2, b2⟩ := List.getElem?_eq_some_iff.1 hp
          have := hp1 i j a1 a2 hij
          rw [b1, b2] at this
          simp only at this
          omega
        · have : j = i := by omega
          subst this
          rw [hei] at hp
          cases hp
          exact hn
      refine hstop (.exit 0) _ ?_
      rw [hU]
      have K3 := (K2.mv 2).drop
      exact (sat_pur.2 ⟨rfl, K3⟩ : sat (pur (Code.exit 0 = .exit 0) :: _) _).bk 2
    · rw [decide_eq_false hn, cond_false]
      refine StCC (K2.mv 4) (show 0 < 1 by decide) rfl fun h10 K3 => ?_
      have K4 := K3.bk 4
      obtain ⟨⟨pa, pc⟩, K5⟩ := sat_exi.1 (K4.mv 5)
      have K6 := K5.open
      -- b2, own, L, D, rise, b0, b1, log, fs, F
      refine VSl K6.get ?_
      have hx8 := hE (n, x) (List.mem_of_getElem? hei)
      have K7 := riseT_keep (K6.mv 4) hx hgx
      -- Bs, rise, b2, own, L, D, b0, b1, log, fs, F
      have rd : ∀ {h' : Heap} {F' : List HProp}, sat (roP (Bs x (.slice va x.length vc)) :: F') h' → RdC h' va (x.map nv) := fun hh => by
        obtain ⟨a', c', e, hr⟩ := roP_get hh
        cases e
        exact hr
      refine ⟨ofN x, bytesIn_of (rd K7) rfl hx8.2.1, ?_⟩
      refine (F44_spec (n := n) K7).mono ?_
      rintro v h11 ⟨rfl, K8⟩
      rw [DS_string]
      refine ⟨VSl (K8.mv 2).get rfl, rfl, ⟨ofN x, bytesIn_of (rd K8) rfl hx8.2.1, rfl⟩, ?_⟩
      refine Al_sat K8 fun b3 h12 K9 => ?_
      refine ⟨VSl (K9.mv 3).get rfl, ?_⟩
      -- b3, Bs, rise, b2, own, L, D, b0, b1, log, fs, F
      have hil : (M.entries.take i).length = i := by rw [List.length_take]; omega
      rw [hil] at K9 ⊢
      refine appendN u144 src144 inf146 (K9.mv 4) (n := 1) (ys := pairC (AF.hexN n, ofN x)) (srcOf_slice (RdCf K9 rfl) rfl) (by intro u hu; simp [pairC] at hu; rcases hu with rfl | rfl <;> rfl) (by omega) fun a' c' h13 _ K10 => ?_
      rw [DSl_slice]
      -- own, b3, Bs, rise, b2, L, D, b0, b1, log, fs, F
      refine StCC (K10.mv 4) (show 0 < 1 by decide) rfl fun h14 K11 => ?_
      -- b2, own, b3, Bs, rise, L, D, b0, b1, log, fs, F
      have htk : M.entries.take (i + 1) = M.entries.take i ++ [(n, x)] := by rw [List.take_add_one, hei]; rfl
      have htl : (M.entries.take (i + 1)).length = i + 1 := by rw [List.length_take]; omega
      have hps : (psE (M.entries.take (i + 1))).flatMap pairC = (psE (M.entries.take i)).flatMap pairC ++ pairC (AF.hexN n, ofN x) := by
        rw [htk]
        unfold psE
        rw [List.map_append, List.flatMap_append]
        simp
      have htop : topT (M.entries.take (i + 1)) = n := by
        rw [htk]
        exact topT_snoc (by rw [← htk]; exact List.Pairwise.sublist (List.take_sublist _ _) hu) hx8.1
      have K12 := exi_in (A := fun q : Option Addr × Nat => Many [pt b2 (.cells #[.slice q.1 (M.entries.take (i + 1)).length q.2] 144 (0, 0)), ownS 146 2 q.1 (M.entries.take (i + 1)).length q.2 ((psE (M.entries.take (i + 1))).flatMap pairC)]) (a', c') (sat.shut (m := [_, _]) (by rw [htl, hps]; exact K11))
      -- exi, b3, Bs, rise, L, D, b0, b1, log, fs, F
      have K13 := riseT_next (K12.mv 3)
      have P : ∀ j p, j < i + 1 → M.entries[j]? = some p → p.1 ≤ m := fun j p hj hp => by
        rcases Nat.lt_or_ge j i with h | h
        · exact hle j p h hp
        · have : j = i := by omega
          subst this
          rw [hei] at hp
          cases hp
          simp only
          omega
      have K14 := sat_pur.2 ⟨P, K13⟩
      -- pur, rise, exi, b3, Bs, L, D, b0, b1, log, fs, F
      refine hgo h14 ?_
      have K15 : sat (pt L (rec .busy none) :: markD h8.size :: riseT Bs kb tb eb a c 129 s (i + 1) M.entries :: pur (∀ j p, j < i + 1 → M.entries[j]? = some p → p.1 ≤ m) :: pt b0 (.cells #[.int .i64 m] 2 (0, 0)) :: pt b1 (.cells #[.int .i64 n] 2 (0, 0)) :: (exi fun q : Option Addr × Nat => Many [pt b2 (.cells #[.slice q.1 (M.entries.take (i + 1)).length q.2] 144 (0, 0)), ownS 146 2 q.1 (M.entries.take (i + 1)).length q.2 ((psE (M.entries.take (i + 1))).flatMap pairC)]) :: logM b fsb M :: fsP fsb A :: F) h14 := K14.ordT 11 [5, 6, 1, 0, 7, 8, 2, 9, 10]
      unfold foldG
      rw [htop]
      exact K15
  · intro h9 K
    refine ⟨.inl rfl, fun _ => ?_, fun e => by cases e⟩
    obtain ⟨hle, K1⟩ := sat_pur.1 (K.mv 2)
    -- D, rise, ...
    have K2 := (K1.mv 1).drop
    refine tail (M.entries.take s.length) h9 ?_ K2
    refine upTo_take hu hle fun j p hj hp => ?_
    have := (List.getElem?_eq_some_iff.1 hp).1
    omega
  · intro j h9 K
    obtain ⟨rfl, K1⟩ := sat_pur.1 (K.mv 1)
    refine ⟨.inr rfl, (fun e => by cases e), fun _ => ?_⟩
    exact tail (upTo M.entries m) h9 rfl K1
end

end Go.Proofs.YticjjdhaikbdaaaGreat
