/- Fold. -/
import Derived.Test.YticjjdhaikbdaaaGreatMkMtC
namespace Go.Proofs.YticjjdhaikbdaaaGreat
open Go Go.RowKit Go.MapKept
set_option linter.unusedVariables false
set_option linter.unusedSimpArgs false
open AF (Meta copyT topT nmI Ent)
open Hex (digs)

theorem inf146 : infoSz Tryz.prog 146 2 32 = true := by kernel_rfl
theorem u144 : Tryz.prog.underlying 144 = some (.slice 146) := by kernel_rfl
theorem src144 : srcTy Tryz.prog 144 = true := by kernel_rfl
section
variable {F : List HProp} {h : Heap} {b fsb : Nat} {M : Meta} {A : AF.FS}
def foldS (M : Meta) (A : AF.FS) (last : Int) : AF.FS × Meta × Nat :=
  if last < 0 then (A, M, 91) else if topT M.Fo = last ∧ M.Fo.length = 1 ∧ ∀ p ∈ M.S, last < p.1 then (A, M, 0) else foldR M A last
theorem fold_eq (upto : Int) : M.fold A upto = foldS M A (topT (upTo M.entries (max upto (topT M.Fo)))) := by
  unfold AF.Meta.fold foldS foldR
  have e : M.entries.filter (fun p => decide (p.1 ≤ max upto (topT M.Fo))) = upTo M.entries (max upto (topT M.Fo)) := rfl
  simp only [e]
  generalize hs : upTo M.entries (max upto (topT M.Fo)) = some
  have hsm : ∀ p ∈ some, p ∈ M.entries ∧ p.1 ≤ max upto (topT M.Fo) := fun p hp => by rw [← hs] at hp; have := List.mem_filter.1 hp; exact ⟨this.1, by simpa using this.2⟩
  have hms : ∀ p ∈ M.entries, p.1 ≤ max upto (topT M.Fo) → p ∈ some := fun p hp hl => by rw [← hs]; exact List.mem_filter.2 ⟨hp, by simpa using hl⟩
  by_cases h0 : topT some < 0
  · rw [if_pos h0, if_pos h0]
  rw [if_neg h0, if_neg h0]
  obtain ⟨pl, hpl, epl⟩ := AF.top_mem (T := some) (by omega)
  have hfil : M.entries.filter (fun p => decide (p.1 ≤ topT some)) = some := by
    conv => rhs; rw [← hs]; unfold upTo
    apply List.filter_congr
    intro p hp
    have h1 : topT some ≤ max upto (topT M.Fo) := by rw [← epl]; exact (hsm pl hpl).2
    by_cases h : p.1 ≤ max upto (topT M.Fo)
    · have := AF.le_top (hms p hp h)
      simp [h, this]
    · have : ¬ p.1 ≤ topT some := by omega
      simp [h, this]
  have hfil2 : upTo M.entries (topT some) = some := hfil
  rw [hfil2, hfil]
set_option maxHeartbeats 1000000 in
theorem foldB_spec {b1 b2 D : Nat} {last : Int} {pa : Option Addr} {pc : Nat} {Q : Value → Heap → Prop} (W : A.WF) (hs : A.steps + M.S.length + M.Fo.length + 30 < 1099511627776) (hd : M.dir.size < 4611686018427387904)
    (hE : ∀ p ∈ M.entries, B8 p.2 ∧ p.2.length ≤ 1000000000) (hEl : M.entries.length < 1000000000) (hsz : (AF.pairsE (upTo M.entries last)).length ≤ 1099511627776)
    (H : sat (pt b1 (.cells #[.int .i64 last] 2 (0, 0)) :: pt b2 (.cells #[.slice pa (upTo M.entries last).length pc] 144 (0, 0)) :: ownS 146 2 pa (upTo M.entries last).length pc ((psE (upTo M.entries last)).flatMap pairC) :: markD D :: logM b fsb M :: fsP fsb A :: F) h)
    (hQ : ∀ v h', Came b fsb A (M.S.length + M.Fo.length + 10) (foldS M A last) F v h' → Q v h') : foldB (some ⟨b, 0, none⟩) b1 b2 D h Q := by
  unfold foldB
  refine VIn H.get ?_
  by_cases hneg : last < 0
  · rw [decide_eq_true hneg, cond_true]
    refine ⟨(H.mv 3).get, hQ _ _ ?_⟩
    have H2 := (H.mv 3).set (.deferred none)
    unfold foldS
    rw [if_pos hneg]
    exact ⟨rfl, W, Nat.le_add_right _ _, H2.ordT 6 [4, 5]⟩
  rw [decide_eq_false hneg, cond_false]
  refine VIn H.get ?_
  refine (F89_spec (H.mv 4)).mono ?_
  rintro v h1 ⟨rfl, H1⟩
  rw [DI_int]
  -- log, b1, b2, own, D, fs, F
  refine ⟨VIn (H1.mv 1).get rfl, ?_⟩
  -- the loop over the singles, from either truth
  have loop : ∀ (s0 : Bool) (h2 : Heap) (r : Nat) (ms mf mm : Nat) (m : List (Int × Value)) (es : Array MapEntry) (clock : Nat) (hm : MapIs (intKeys .i64) es clock m) (hc : s0 = true → topT M.Fo = last ∧ M.Fo.length = 1) (hc2 : s0 = false → ¬ (topT M.Fo = last ∧ M.Fo.length = 1))
      (H2 : sat (pt r (.mapIter (some ms) clock #[] clock) :: pt ms (.map es clock) :: roP (TabIs Bs m M.S) :: pt b (.cells (logC5 fsb M.dir ms mf mm) 133 (0, 0)) :: tabM Bb mf M.Fo :: tabM Bs mm M.D :: pt b1 (.cells #[.int .i64 last] 2 (0, 0)) :: pt b2 (.cells #[.slice pa (upTo M.entries last).length pc] 144 (0, 0)) :: ownS 146 2 pa (upTo M.entries last).length pc ((psE (upTo M.entries last)).flatMap pairC) :: markD D :: fsP fsb A :: F) h2),
      LoopH (fun again0 (s0 : Bool) h_21 =>
        RunH Tryz.prog (Instr.next (.pointer (some ⟨r, 0, none⟩)) false 0) h_21 fun r15 h_22 =>
        (r15 = .tuple #[.bool false] ∧
          (bif s0 then h_22[D]? = some (.deferred (some [])) ∧ Q (.int .i64 0) (h_22.setIfInBounds D (.deferred none)) else foldA (some ⟨b, 0, none⟩) b1 b2 D h_22 Q)) ∨
        (∃ (k0 x15 : Value), r15 = .tuple #[.bool true, k0, x15] ∧
          RunH Tryz.prog (Instr.entry (.pointer (some ⟨r, 0, none⟩))) h_22 fun r29 h_38 =>
          ∃ (x35 : Int), ∃ (x36 : Value), r29 = .tuple #[.int .i64 x35, x36] ∧
          (bif s0 then
            Ld h_38 (Addr.mk b1 0 none) fun v18 => DI .i64 v18 fun x37 =>
            again0 (decide ((x35 : Int) > x37)) h_38
          else again0 false h_38))) s0 h2 := by
    intro s0 h2 r ms mf mm m es clock hm hc hc2 H2
    have I := roP_get (H2.mv 2)
    have hperm := I.perm hm.nodup
    have hst : s0 = (s0 && ([] : List (Int × Value)).all fun p => decide (last < p.1)) := by simp
    rw [hst]
    refine mapLoopI hm (fun done => s0 && done.all fun p => decide (last < p.1)) (G := fun _ => roP (TabIs Bs m M.S) :: pt b (.cells (logC5 fsb M.dir ms mf mm) 133 (0, 0)) :: tabM Bb mf M.Fo :: tabM Bs mm M.D :: pt b1 (.cells #[.int .i64 last] 2 (0, 0)) :: pt b2 (.cells #[.slice pa (upTo M.entries last).length pc] 144 (0, 0)) :: ownS 146 2 pa (upTo M.entries last).length pc ((psE (upTo M.entries last)).flatMap pairC) :: markD D :: fsP fsb A :: F) H2 ?_ ?_
    · intro done h3 hp H3
      -- ms, TabIs, log, tF, tD, b1, b2, own, D, fs, F
      have hall : (done.all fun p => decide (last < p.1)) = true ↔ ∀ p ∈ M.S, last < p.1 := by
        rw [List.all_eq_true]
        have hmem : ∀ k, k ∈ done.map (·.1) ↔ k ∈ M.S.map (·.1) := fun k => (hp.map (·.1)).mem_iff.trans hperm.mem_iff
        constructor
        · intro h p hp2
          obtain ⟨q, hq, e⟩ := List.mem_map.1 ((hmem p.1).2 (List.mem_map.2 ⟨p, hp2, rfl⟩))
          have := h q hq
          rw [e] at this
          simpa using this
        · intro h p hp2
          obtain ⟨q, hq, e⟩ := List.mem_map.1 ((hmem p.1).1 (List.mem_map.2 ⟨p, hp2, rfl⟩))
          have := h q hq
          rw [e] at this
          simpa using this
      have H4 : sat (tabM Bs ms M.S :: pt b (.cells (logC5 fsb M.dir ms mf mm) 133 (0, 0)) :: tabM Bb mf M.Fo :: tabM Bs mm M.D :: pt b1 (.cells #[.int .i64 last] 2 (0, 0)) :: pt b2 (.cells #[.slice pa (upTo M.entries last).length pc] 144 (0, 0)) :: ownS 146 2 pa (upTo M.entries last).length pc ((psE (upTo M.entries last)).flatMap pairC) :: markD D :: fsP fsb A :: F) h3 := tabM_shut (ownM_shut hm H3)
      have H5 : sat (logM b fsb M :: pt b1 (.cells #[.int .i64 last] 2 (0, 0)) :: pt b2 (.cells #[.slice pa (upTo M.entries last).length pc] 144 (0, 0)) :: ownS 146 2 pa (upTo M.entries last).length pc ((psE (upTo M.entries last)).flatMap pairC) :: markD D :: fsP fsb A :: F) h3 := logM_shut (H4.ordT 4 [1, 0, 2, 3])
      cases hb : (s0 && done.all fun p => decide (last < p.1)) with
      | true =>
        rw [cond_true]
        rw [Bool.and_eq_true] at hb
        obtain ⟨c1, c2⟩ := hc hb.1
        refine ⟨(H5.mv 4).get, hQ _ _ ?_⟩
        have H6 := (H5.mv 4).set (.deferred none)
        unfold foldS
        rw [if_neg hneg, if_pos ⟨c1, c2, hall.1 hb.2⟩]
        exact ⟨rfl, W, Nat.le_add_right _ _, H6.ordT 6 [1, 5]⟩
      | false =>
        rw [cond_false]
        refine foldA_spec W hs hd hE hEl hsz (H5.ordT 6 [1, 2, 3, 4, 0, 5]) fun v h' hc3 => hQ v h' ?_
        have hno : ¬ (topT M.Fo = last ∧ M.Fo.length = 1 ∧ ∀ p ∈ M.S, last < p.1) := by
          rintro ⟨c1, c2, c3⟩
          cases s0 with
          | true =>
            rw [Bool.true_and, hall.2 c3] at hb
            cases hb
          | false => exact hc2 rfl ⟨c1, c2⟩
        unfold foldS
        rw [if_neg hneg, if_neg hno]
        exact hc3
    · rintro o done k v h3 again ⟨rest, hp⟩ H3 hag
      refine ⟨k, v, rfl, ?_⟩
      have e : (s0 && (done ++ [(k, v)]).all fun p => decide (last < p.1)) = ((s0 && done.all fun p => decide (last < p.1)) && decide (last < k)) := by
        rw [List.all_append, Bool.and_assoc]
        simp
      have h4 := hag h3 H3
      rw [e] at h4
      cases hb : (s0 && done.all fun p => decide (last < p.1)) with
      | true =>
        rw [cond_true]
        refine VIn (H3.mv 6).get ?_
        rw [hb, Bool.true_and] at h4
        exact h4
      | false =>
        rw [cond_false]
        rw [hb, Bool.false_and] at h4
        exact h4
  obtain ⟨ms, mf, mm, H2⟩ := logM_open H1
  -- log, tS, tF, tD, b1, b2, own, D, fs, F
  by_cases hx : topT M.Fo = last
  · rw [show (topT M.Fo == last) = true from by rw [hx]; exact beq_self_eq_true _, cond_true, NN'_some]
    refine LdMp (x := mf) H2 rfl ?_
    obtain ⟨es0, f0, he0, hsz0, _⟩ := tab_look (H2.mv 2) 0
    refine ⟨es0, he0, ?_⟩
    rw [NN'_some]
    refine LdMp (x := ms) H2 rfl ?_
    obtain ⟨m, H3⟩ := tabM_open (H2.mv 1)
    obtain ⟨es, clock, hm, H4⟩ := ownM_open H3
    refine range_sat (k := 2) (e := 40) (by kernel_rfl) H4 H4.get fun r h2 H5 => ?_
    rw [DP_pointer]
    refine loop _ h2 r ms mf mm m es clock hm ?_ ?_ H5
    · intro hh
      refine ⟨hx, ?_⟩
      rw [hsz0] at hh
      have : (M.Fo.length : Int) = 1 := by simpa using hh
      omega
    · rintro hh ⟨_, c2⟩
      rw [hsz0, c2] at hh
      exact absurd hh (by decide)
  · rw [show (topT M.Fo == last) = false from beq_eq_false_iff_ne.2 hx, cond_false, NN'_some]
    refine LdMp (x := ms) H2 rfl ?_
    obtain ⟨m, H3⟩ := tabM_open (H2.mv 1)
    obtain ⟨es, clock, hm, H4⟩ := ownM_open H3
    refine range_sat (k := 2) (e := 40) (by kernel_rfl) H4 H4.get fun r h2 H5 => ?_
    rw [DP_pointer]
    exact loop _ h2 r ms mf mm m es clock hm (fun hh => by cases hh) (fun _ hh => hx hh.1) H5
end

end Go.Proofs.YticjjdhaikbdaaaGreat
