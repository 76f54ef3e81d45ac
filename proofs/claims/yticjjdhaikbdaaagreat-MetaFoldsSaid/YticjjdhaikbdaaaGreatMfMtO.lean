/- A fold's file, read back. -/
import Derived.Test.YticjjdhaikbdaaaGreatMfMtN
namespace Go.Proofs.YticjjdhaikbdaaaGreat
open Go Go.RowKit Go.MapKept
set_option linter.unusedVariables false
set_option linter.unusedSimpArgs false
open AF (Meta copyT topT nmI Ent IdOk)
open Hex (digs)

theorem setT_snoc {α : Type} {k : Int} {x : α} : ∀ {T : List (Int × α)}, (∀ p ∈ T, p.1 < k) → setT k x T = T ++ [(k, x)]
  | [], _ => rfl
  | p :: T, h => by
    have h1 := h p (List.mem_cons_self ..)
    unfold setT
    rw [if_neg (by omega), if_neg (by omega), setT_snoc (fun q hq => h q (List.mem_cons_of_mem _ hq))]
    rfl
theorem topT_lt {α : Type} {k : Int} (hk : -1 < k) {T : List (Int × α)} (h : ∀ p ∈ T, p.1 < k) : topT T < k := by
  unfold AF.topT
  have : ∀ (l : List Int) (a : Int), a < k → (∀ x ∈ l, x < k) → l.foldl max a < k := by
    intro l
    induction l with
    | nil => intro a ha _; exact ha
    | cons y l ih =>
      intro a ha hl
      have := hl y (List.mem_cons_self ..)
      exact ih _ (by omega) fun x hx => hl x (List.mem_cons_of_mem _ hx)
  exact this _ _ hk fun x hx => by
    obtain ⟨p, hp, rfl⟩ := List.mem_map.1 hx
    exact h p hp
theorem take_lt {α : Type} {D : List (Int × α)} (hu : UpT D) {i : Nat} {p : Int × α} (hp : D[i]? = some p) : ∀ q ∈ D.take i, q.1 < p.1 := by
  intro q hq
  obtain ⟨j, hj⟩ := List.mem_iff_getElem?.1 hq
  rw [List.getElem?_take] at hj
  split at hj
  · rename_i hji
    obtain ⟨b1, c1⟩ := List.getElem?_eq_some_iff.1 hj
    obtain ⟨b2, c2⟩ := List.getElem?_eq_some_iff.1 hp
    have := List.pairwise_iff_getElem.1 hu j i b1 b2 hji
    rw [c1, c2] at this
    exact this
  · cases hj
theorem natOf_id {n : Int} (h : IdOk n) : ((natOf n : Nat) : Int) = n ∧ natOf n < 9223372036854775808 := by
  obtain ⟨h0, h1⟩ := h
  have e : n = ((n.toNat : Nat) : Int) := by omega
  rw [e, natOf_nat (by omega)]
  exact ⟨rfl, by omega⟩
theorem pairB_le {p : ByteArray × ByteArray} {ps : List (ByteArray × ByteArray)} (h : p ∈ ps) : p.2.size ≤ (pairsN ps).length := by
  rw [← preN_all]
  unfold preN
  rw [List.length_append]
  have h1 : p.2.size ≤ (pairB (sb p.1, sb p.2)).length := by
    unfold pairB wordB
    simp only [List.length_append, sb_length]
    omega
  have h2 : (pairB (sb p.1, sb p.2)).length ≤ (ps.flatMap fun p => pairB (sb p.1, sb p.2)).length := by
    induction ps with
    | nil => cases h
    | cons q ps ih =>
      rw [List.flatMap_cons, List.length_append]
      rcases List.mem_cons.1 h with rfl | h
      · omega
      · have := ih h
        omega
  omega
section
variable {F : List HProp} {h : Heap}
set_option maxHeartbeats 1000000 in
theorem unfold_ok : UnfoldOk := by
  intro h F a c D hu htop hD hl H
  have hps : pairsN (psE D) = AF.pairsE D := psE_pairs fun p hp => (hD p hp).2
  rw [← hps] at H hl ⊢
  have hplen : (psE D).length = D.length := List.length_map _
  have hc : (pairsN (psE D)).length ≤ c := by
    rcases (ownS_cases H).2 with ⟨_, h0, _⟩ | ⟨_, _, _, _, h1, _⟩ <;> omega
  apply F90_ok
  unfold F90
  refine (F143_spec (F := F) hc hl (ownS_read H) (roP_own H)).mono ?_
  rintro v h1 ⟨a1, c1, rfl, H1⟩
  refine ⟨a1, (psE D).length, c1, 0, rfl, ?_⟩
  rw [show ((0 : Int) != 0) = false from rfl, cond_false]
  have hne : D ≠ [] := by
    rintro rfl
    exact absurd htop (by decide)
  have hpos : 0 < D.length := List.length_pos_iff.2 hne
  have hz : (((psE D).length : Int) == 0) = false := by
    rw [beq_eq_false_iff_ne]
    omega
  rw [hz, cond_false]
  refine Al_sat H1 fun b1 h2 H2 => ?_
  have hlong := pairs_long (psE D)
  have hlt : D.length ≤ 16777216 := by
    rw [← preN_all] at hl
    unfold preN at hl
    rw [List.length_append] at hl
    omega
  refine LoopH.upto D.length (fun i (s : Int × Int) h3 => s.2 = (i : Int) ∧ i ≤ D.length ∧ s.1 = topT (D.take i) ∧ sat (tabM Bs b1 (D.take i) :: ownS 146 2 a1 (psE D).length c1 ((psE D).flatMap pairC) :: F) h3) (fun s => D.length - s.2.toNat) (fun i s h2 hh => ⟨hh.2.1, by rw [hh.1]; omega⟩)
    ⟨rfl, Nat.zero_le _, rfl, tabM_new H2⟩ ?_ ?_
  · rintro i ⟨s1, s2⟩ h3 again hi ⟨rfl, _, hs1, H3⟩ go
    dsimp only at hs1 H3 ⊢
    subst hs1
    rw [hplen, decide_eq_true (show ((i : Int) < (D.length : Int)) by omega), cond_true]
    obtain ⟨⟨n, x⟩, hx⟩ : ∃ x, D[i]? = some x := ⟨_, List.getElem?_eq_getElem hi⟩
    have hxm := List.mem_of_getElem? hx
    have hid : IdOk n := (hD _ hxm).1
    have h8 : B8 x := (hD _ hxm).2
    have hpx : (psE D)[i]? = some (AF.hexN n, ofN x) := by
      unfold psE
      rw [List.getElem?_map, hx]
      rfl
    have hszx : (ofN x).size ≤ 16777216 := by
      have := pairB_le (List.mem_of_getElem? hpx)
      simp only at this
      omega
    refine IdxC (f := pairC) (sz := 2) (x := (AF.hexN n, ofN x)) pairC_len (by decide) (ownS_read (H3.mv 1)) hplen hpx fun b hb hc => ?_
    refine ⟨.string (AF.hexN n), hc 0 _ rfl, .string (ofN x), hc 1 _ rfl, AF.hexN n, ofN x, rfl, ?_⟩
    refine Al_sat H3 fun b2 h4 H4 => ?_
    simp only [addr_add0]
    refine StC_sat H4 (by decide) (nofz_zero 2 0 (by decide)) fun h5 H5 => ?_
    refine StC_sat (i := 1) H5 (by simp) (nofz_zero 2 1 (by decide)) fun h6 H6 => ?_
    have H7 : sat (pt b2 (.cells #[.string (AF.hexN n), .string (ofN x)] 146 (0, 0)) :: tabM Bs b1 (D.take i) :: ownS 146 2 a1 (psE D).length c1 ((psE D).flatMap pairC) :: F) h6 := H6
    refine ⟨.string (AF.hexN n), by rw [cellAt_of H7.get]; rfl, AF.hexN n, rfl, ?_⟩
    have hdg : sb (AF.hexN n) = digs 16 (natOf n) := sb_ofN (Hex.digs_B8 16 _)
    have hsz : (AF.hexN n).size ≤ 4000 := by
      rw [← sb_length, hdg, Hex.digs_length]
      decide
    refine (F142_spec hsz H7).mono ?_
    rintro v h7 ⟨rfl, H8⟩
    obtain ⟨hn1, hn2⟩ := natOf_id hid
    have hun : unhexV (Hex.unhex (sb (AF.hexN n))) = .tuple #[.int .i64 n, .bool true] := by
      rw [hdg, Hex.unhex_digs (by omega), if_pos hn2]
      unfold unhexV
      simp only [Option.getD_some, Option.isSome_some, hn1]
    rw [hun]
    refine ⟨n, true, rfl, ?_⟩
    rw [Bool.not_true, cond_false]
    have hlt2 : topT (D.take i) < n := topT_lt (by have := hid.1; omega) (take_lt hu hx)
    rw [decide_eq_false (show ¬ (n ≤ topT (D.take i)) by omega), cond_false]
    refine ⟨.string (ofN x), cell_pt (i := 1) H8 rfl, ofN x, rfl, ?_⟩
    refine cText H8 (by unfold maxLen; omega) fun ca cc h8' H9 => ?_
    rw [DSl_slice]
    -- own, b2, tab, pairs, F
    have hxl : (ofN x).size = x.length := by rw [← sb_length, sb_ofN h8]
    have H10 := roP_mono (S := Bs x (.slice ca (ofN x).size cc)) (fun h hh => by
      rw [sb_ofN h8] at hh
      exact ⟨ca, cc, by rw [hxl], hh⟩) (roP_own H9)
    refine tab_set (kt := 2) (et := 40) (x := x) (by kernel_rfl) (by kernel_rfl) (H10.ordT 3 [2, 0]) fun h9 H11 => ?_
    rw [wrap64_succ (by omega)]
    have htk : D.take (i + 1) = D.take i ++ [(n, x)] := by rw [List.take_add_one, hx]; rfl
    have hset : setT n x (D.take i) = D.take (i + 1) := by rw [htk, setT_snoc (take_lt hu hx)]
    rw [hset] at H11
    refine go _ _ ⟨rfl, by omega, ?_, H11⟩
    rw [htk, topT_snoc (by rw [← htk]; exact List.Pairwise.sublist (List.take_sublist _ _) hu) hid.1]
  · rintro ⟨s1, s2⟩ h3 again ⟨rfl, _, hs1, H3⟩
    dsimp only at hs1 H3 ⊢
    subst hs1
    rw [hplen, decide_eq_false (by omega), cond_false]
    rw [List.take_length] at H3 ⊢
    refine ⟨b1, ?_, H3.ordT 2 [0]⟩
    rw [show (topT D == topT D) = true from beq_self_eq_true _]
end
end Go.Proofs.YticjjdhaikbdaaaGreat
