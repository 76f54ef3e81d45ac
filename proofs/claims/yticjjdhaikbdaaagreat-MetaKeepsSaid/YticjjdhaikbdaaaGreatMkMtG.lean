/- Opening a log, whole, where nothing goes wrong. -/
import Derived.Test.YticjjdhaikbdaaaGreatMkMtF
namespace Go.Proofs.YticjjdhaikbdaaaGreat
open Go Go.RowKit Go.MapKept
set_option linter.unusedVariables false
set_option linter.unusedSimpArgs false
open AF (Meta copyT topT nmI Ent kindN scanK scanNames readS IdOk)
open Hex (digs)

section
variable {F : List HProp} {h : Heap} {fsb : Nat} {A : AF.FS} {dir : ByteArray}
theorem scan_take {ks : List ByteArray} {i : Nat} {s : ByteArray} (hs : ks[i]? = some s) : scanNames (ks.take (i + 1)) = scanK (scanNames (ks.take i)) s := by
  unfold AF.scanNames
  rw [List.take_add_one, hs, List.foldl_append]
  rfl
theorem setT_len {α : Type} (k : Int) (x : α) (T : List (Int × α)) : (setT k x T).length ≤ T.length + 1 := (AF.setT_length k x T).1
theorem scan_len : ∀ (ks : List ByteArray), (scanNames ks).1.length ≤ ks.length := by
  intro ks
  have : ∀ (l : List ByteArray) (r : Ent × List (Int × Unit)), (l.foldl scanK r).1.length ≤ r.1.length + l.length := by
    intro l
    induction l with
    | nil => intro r; exact Nat.le_refl _
    | cons s l ih =>
      intro r
      have h1 := ih (scanK r s)
      have h2 : (scanK r s).1.length ≤ r.1.length + 1 := by
        unfold AF.scanK
        split
        · split
          · exact setT_len _ _ _
          · exact Nat.le_succ _
        · exact Nat.le_succ _
      rw [List.foldl_cons, List.length_cons]
      omega
  have h3 := this ks ([], [])
  rw [List.length_nil, Nat.zero_add] at h3
  exact h3
def OpenPost (fsb : Nat) (M : Meta) (B : AF.FS) (k : Nat) (F : List HProp) (v : Value) (h' : Heap) : Prop :=
  ∃ b, v = .tuple #[ptrV b, .int .i64 0] ∧ B.WF ∧ B.steps ≤ k ∧ sat (logM b fsb M :: fsP fsb B :: F) h'
set_option maxHeartbeats 1000000 in
theorem F28_spec {B : AF.FS} {ks : List ByteArray} {S0 S D : Ent} {Fo : List (Int × Unit)} (W : A.WF) (hs : A.steps + 20000 < 1099511627776) (hd : dir.size < 4611686018427387904) (hp : A.prep dir = (B, .ok ks)) (hsc : scanNames ks = (S0, Fo))
    (hr : readS B dir (S0.map (·.1)) S0 = .ok S) (hD : (topT Fo < 0 ∧ D = []) ∨ (UnfoldOk ∧ topT Fo = topT D ∧ UpT D ∧ -1 < topT D ∧ (∀ p ∈ D, IdOk p.1 ∧ B8 p.2) ∧ (AF.pairsE D).length ≤ 16777216 ∧ B.get dir (nmI 102 (topT D)) = .ok (AF.pairsE D)))
    (H : sat (fsP fsb A :: F) h) : CallsH Tryz.prog 28 [ptrV fsb, .string dir] h (OpenPost fsb ⟨dir, S, Fo, D⟩ B (A.steps + 5001) F) := by
  apply F28_ok
  unfold F28
  refine Al_sat H fun b0 h1 H1 => ?_
  refine Al_sat H1 fun b1 h2 H2 => ?_
  refine Al_sat H2 fun b2 h3 H3 => ?_
  refine Al_sat H3 fun b3 h4 H4 => ?_
  refine VPt (H4.mv 3).get ?_
  refine VSt (H4.mv 2).get ?_
  refine (F21_spec W hs hd (H4.mv 4)).mono ?_
  rw [hp]
  rintro v h5 ⟨W2, hs2, ⟨ks', a, c, hk, hright, hlen, rfl, H5⟩ | ⟨e, hk, _⟩⟩
  rotate_left
  · cases hk
  simp only at W2 hs2 H5
  cases hk
  refine ⟨a, ks.length, c, 0, rfl, ?_⟩
  rw [show ((0 : Int) != 0) = false from rfl, cond_false]
  -- own, fs, b3, b2, b1, b0, F
  refine VPt (H5.mv 5).get ?_
  refine VSt (H5.mv 4).get ?_
  refine Al_sat H5 fun b4 h6 H6 => ?_
  refine Al_sat H6 fun b5 h7 H7 => ?_
  refine Al_sat H7 fun b6 h8 H8 => ?_
  refine Al_sat H8 fun b7 h9 H9 => ?_
  refine Al_sat H9 fun b8 h10 H10 => ?_
  refine StCC H10 (show 0 < 1 by decide) rfl fun h11 H11 => ?_
  -- b8, b7, b6, b5, b4, own, fs, b3, b2, b1, b0, F
  have M1 := tabM_new (R := Bs) (H11.mv 4)
  -- b4, b8, b7, b6, b5, own, ...
  have M2 := tabM_new (R := Bb) (M1.mv 4)
  -- b5, b4, b8, b7, b6, own, ..
  have M3 := tabM_new (R := Bs) (M2.mv 4)
  -- b6, b5, b4, b8, b7, own, fs, b3, b2, b1, b0, F
  have H12 : sat (tabM Bs b4 (scanNames (ks.take 0)).1 :: tabM Bb b5 (scanNames (ks.take 0)).2 :: tabM Bs b6 [] :: pt b7 (.cells (logC5 fsb dir b4 b5 b6) 133 (0, 0)) :: pt b8 (.cells #[ptrV b7] 60 (0, 0)) :: ownS 9 1 a ks.length c (ks.map Value.string) :: fsP fsb B :: pt b3 (.cells #[.int .i64 0] 26 (0, 0)) :: pt b2 (.cells #[.pointer none] 60 (0, 0)) :: pt b1 (.cells #[.string dir] 9 (0, 0)) :: pt b0 (.cells #[ptrV fsb] 25 (0, 0)) :: F) h11 := M3.ordT 11 [2, 1, 0, 4, 3, 5, 6, 7, 8, 9, 10]
  refine LoopH.upto ks.length (fun i (s0 : Int) h' => s0 = (i : Int) ∧ i ≤ ks.length ∧ sat (tabM Bs b4 (scanNames (ks.take i)).1 :: tabM Bb b5 (scanNames (ks.take i)).2 :: tabM Bs b6 [] :: pt b7 (.cells (logC5 fsb dir b4 b5 b6) 133 (0, 0)) :: pt b8 (.cells #[ptrV b7] 60 (0, 0)) :: ownS 9 1 a ks.length c (ks.map Value.string) :: fsP fsb B :: pt b3 (.cells #[.int .i64 0] 26 (0, 0)) :: pt b2 (.cells #[.pointer none] 60 (0, 0)) :: pt b1 (.cells #[.string dir] 9 (0, 0)) :: pt b0 (.cells #[ptrV fsb] 25 (0, 0)) :: F) h') (fun s0 => ks.length - s0.toNat) (fun i s0 h' hh => ⟨hh.2.1, by rw [hh.1]; omega⟩) ⟨rfl, Nat.zero_le _, H12⟩ ?_ ?_
  · rintro i s0 h' again hi ⟨rfl, _, K⟩ go
    rw [decide_eq_true (show ((i : Int) < (ks.length : Int)) by omega), cond_true]
    obtain ⟨s, hsi⟩ : ∃ s, ks[i]? = some s := ⟨_, List.getElem?_eq_getElem hi⟩
    refine strRead (ownS_read (K.mv 5)) rfl hsi fun bb hc => ?_
    refine ⟨.string s, hc, s, rfl, ?_⟩
    refine (F88_spec (s := s) K).mono ?_
    have hst := scan_take hsi
    rintro v h12 ⟨K1, ⟨cc, n, hk, rfl⟩ | ⟨hk, x, y, rfl⟩⟩
    · refine ⟨(cc : Int), n, true, rfl, ?_⟩
      rw [cond_true]
      by_cases h98 : cc = 98
      · subst h98
        rw [show ((((98 : Nat) : Int)) == 98) = true from rfl, cond_true]
        refine VPt (K1.mv 4).get ?_
        rw [NN'_some]
        refine LdMp (x := b4) (K1.mv 3) rfl ?_
        have K2 := roP_mono (S := Bs [] (.slice none 0 0)) (fun h _ => ⟨none, 0, rfl, rfl⟩) (roP_true K1)
        refine tab_set (kt := 2) (et := 40) (x := ([] : List Nat)) (by kernel_rfl) (by kernel_rfl) ((K2.mv 1)|>.ordT 2 [0, 1]) fun h13 K3 => ?_
        rw [wrap64_succ (by omega)]
        refine go _ _ ⟨rfl, by omega, ?_⟩
        rw [hst]
        have e : scanK (scanNames (ks.take i)) s = (setT n [] (scanNames (ks.take i)).1, (scanNames (ks.take i)).2) := by unfold AF.scanK; rw [hk]; exact if_pos rfl
        rw [e]
        exact K3
      · rw [show ((cc : Int) == 98) = false from by rw [beq_eq_false_iff_ne]; omega, cond_false, cond_true]
        refine VPt (K1.mv 4).get ?_
        rw [NN'_some]
        refine LdMp (x := b5) (K1.mv 3) rfl ?_
        have K2 := roP_mono (S := Bb () (.bool true)) (fun h _ => rfl) (roP_true K1)
        refine tab_set (kt := 2) (et := 4) (x := ()) (by kernel_rfl) (by kernel_rfl) (K2.ordT 3 [2, 0, 1]) fun h13 K3 => ?_
        rw [wrap64_succ (by omega)]
        refine go _ _ ⟨rfl, by omega, ?_⟩
        rw [hst]
        have e : scanK (scanNames (ks.take i)) s = ((scanNames (ks.take i)).1, setT n () (scanNames (ks.take i)).2) := by unfold AF.scanK; rw [hk]; exact if_neg h98
        rw [e]
        exact K3.mv 1
    · refine ⟨x, y, false, rfl, ?_⟩
      rw [cond_false, cond_false, wrap64_succ (by omega)]
      refine go _ _ ⟨rfl, by omega, ?_⟩
      rw [hst]
      have e : scanK (scanNames (ks.take i)) s = scanNames (ks.take i) := by unfold AF.scanK; rw [hk]
      rw [e]
      exact K1
  · rintro s0 h' again ⟨rfl, _, K⟩
    rw [decide_eq_false (by omega), cond_false]
    rw [List.take_length, hsc] at K
    simp only at K
    refine VPt (K.mv 4).get ?_
    -- b4, b5, b6, b7, b8, own, fs, b3, b2, b1, b0, F
    have K1 : sat (logM b7 fsb ⟨dir, S0, Fo, []⟩ :: openF (b := b7) b0 b1 b2 b3 b8 fsb dir B F) h' := logM_shut (M := ⟨dir, S0, Fo, []⟩) (K.ordT 11 [3, 0, 1, 2, 10, 9, 8, 7, 4, 6])
    refine (F89_spec K1).mono ?_
    rintro v h12 ⟨rfl, K2⟩
    rw [DI_int]
    have hSl : S0.length < 1000000000 := by
      have := scan_len ks
      rw [hsc] at this
      simp only at this
      omega
    simp only
    rcases hD with ⟨hneg, rfl⟩ | ⟨HU, htop, hDu, hDt, hDo, hDl, hDg⟩
    · rw [decide_eq_false (show ¬ (topT Fo ≥ 0) by omega), cond_false]
      show openT b0 b1 b2 b3 b8 _ (OpenPost fsb ⟨dir, S, Fo, []⟩ B (A.steps + 5001) F)
      exact openT_spec (M := ⟨dir, S0, Fo, []⟩) W2 hd hSl hr K2 fun h' K3 => ⟨b7, rfl, W2, hs2, K3⟩
    · rw [decide_eq_true (show (topT Fo ≥ 0) by omega), cond_true]
      unfold openF at K2
      -- log, b0, b1, b2, b3, b8, fs, F
      refine VPt (K2.mv 1).get ?_
      refine VSt (K2.mv 2).get ?_
      refine (F44_spec (n := topT Fo) K2).mono ?_
      rintro v h13 ⟨rfl, K3⟩
      rw [DS_string]
      refine ⟨VPt (K3.mv 1).get rfl, VSt (K3.mv 2).get rfl, ?_, ?_⟩
      · have := size_nmI 102 (topT Fo)
        rw [show (nmI 102 (topT Fo)).size = ((⟨#[102, 46]⟩ : ByteArray) ++ ofN (digs 16 (natOf (topT Fo)))).size from rfl, ByteArray.size_append] at this
        omega
      refine (F17_spec (name := nmI 102 (topT Fo)) W2 hd (by rw [size_nmI]; decide) (K3.mv 6)).mono ?_
      rintro v h14 (⟨bs, a2, c2, hg, hb8, hbl, rfl, K4⟩ | ⟨e, hg, _⟩)
      rotate_left
      · rw [htop, hDg] at hg
        cases hg
      rw [htop, hDg] at hg
      cases hg
      refine ⟨a2, _, c2, 0, rfl, ?_⟩
      rw [show ((0 : Int) != 0) = false from rfl, cond_false]
      -- own, fs, log, b0, b1, b2, b3, b8, F
      refine VPt (K4.mv 7).get ?_
      rw [htop]
      refine (HU _ _ a2 c2 D hDu hDt hDo hDl K4).mono ?_
      rintro v h15 ⟨mb, rfl, K5⟩
      -- D, fs, log, b0, b1, b2, b3, b8, F
      refine ⟨some mb, true, rfl, VPt (K5.mv 7).get rfl, ?_⟩
      rw [NN'_some, addr_add0]
      obtain ⟨ms, mf, mm, K6⟩ := logM_open (K5.mv 2)
      -- log, tS, tF, tD, D, fs, b0, b1, b2, b3, b8, F
      refine StCC (c' := logC5 fsb dir ms mf mb) K6 (show 4 < 5 by decide) rfl fun h16 K7 => ?_
      refine ⟨rfl, ?_⟩
      rw [Bool.not_true, cond_false]
      have K8 : sat (logM b7 fsb ⟨dir, S0, Fo, D⟩ :: openF (b := b7) b0 b1 b2 b3 b8 fsb dir B F) h16 := logM_shut (M := ⟨dir, S0, Fo, D⟩) (K7.ordT 11 [0, 1, 2, 4, 6, 7, 8, 9, 10, 5])
      show openT b0 b1 b2 b3 b8 _ (OpenPost fsb ⟨dir, S, Fo, D⟩ B (A.steps + 5001) F)
      exact openT_spec (M := ⟨dir, S0, Fo, D⟩) W2 hd hSl hr K8 fun h' K3 => ⟨b7, rfl, W2, hs2, K3⟩
end

end Go.Proofs.YticjjdhaikbdaaaGreat
