/- The same for maps from numbers to truth values (made by program out of Mt2). -/
import Derived.Test.YticjjdhaikbdaaaGreatMkMt2
namespace Go.Proofs.YticjjdhaikbdaaaGreat
open Go Go.RowKit Go.MapKept
set_option linter.unusedVariables false
set_option linter.unusedSimpArgs false

/-- The iterator of a map's keys, run: each key is handed on until it is told to stop. -/
theorem F192_spec {yv : Value} {cb mb : Nat} {m : List (Int × Value)} {es : Array MapEntry} {clock : Nat} {h : Heap} (hm : MapIs (intKeys .i64) es clock m) (G : List Int → List HProp) (Out : Heap → Prop)
    (start : sat (pt cb (.cells #[.map (some mb)] 131 (0, 0)) :: pt mb (.map es clock) :: G []) h)
    (round : ∀ (r : Nat) (o : Obj) done k h2, done.length < m.length → sat (pt cb (.cells #[.map (some mb)] 131 (0, 0)) :: pt mb (.map es clock) :: pt r o :: G done) h2 →
      CallV Tryz.prog yv [.int .i64 k] h2 fun r' h3 => ∃ go, r' = .bool go ∧ (go = true → sat (pt cb (.cells #[.map (some mb)] 131 (0, 0)) :: pt mb (.map es clock) :: pt r o :: G (done ++ [k])) h3) ∧ (go = false → Out h3))
    (fin : ∀ ks h2, ks.Perm (m.map (·.1)) → sat (pt cb (.cells #[.map (some mb)] 131 (0, 0)) :: pt mb (.map es clock) :: G ks) h2 → Out h2) :
    CallsH Tryz.prog 192 [yv, .pointer (some ⟨cb, 0, none⟩)] h fun v h' => v = .tuple #[] ∧ Out h' := by
  apply F192_ok
  unfold F192
  refine ⟨.map (some mb), by rw [cellAt_of start.get]; rfl, ?_⟩
  show DM (.map (some mb)) _
  rw [DM_map]
  have hn := hm.1.2.1
  refine range_sat (k := 2) (e := 4) (by kernel_rfl) start (start.mv 1).get fun r h1 H1 => ?_
  rw [DP_pointer]
  refine ⟨fun _ h2 => ∃ seen done c0, sat (pt r (.mapIter (some mb) clock seen c0) :: pt cb (.cells #[.map (some mb)] 131 (0, 0)) :: pt mb (.map es clock) :: G (done.map fun e : MapEntry => kI e.key)) h2 ∧ Walked es seen done ∧ clock ≤ c0,
    fun _ h2 => leftAt ⟨r, 0, none⟩ h2, ⟨#[], [], clock, H1, Walked.start es, Nat.le_refl _⟩, ?_⟩
  rintro _ h2 ⟨seen, done, c0, H2, hw, hc⟩
  have hmb := (H2.mv 2).get
  refine next_sat H2 hmb hm.1.1 hc ?_ ?_
  · intro h0
    refine .inl ⟨rfl, rfl, fin (done.map fun e : MapEntry => kI e.key) h2 ?_ H2.drop⟩
    rw [← hm.keysI]
    exact (hw.fin h0).map _
  · intro e he h3 H3
    have hmb3 := (H3.mv 2).get
    have hee := Walked.mem he
    refine .inr ⟨_, _, rfl, ?_⟩
    refine entry_sat H3 hmb3 hee hn ?_
    refine ⟨kI e.key, e.val, by rw [← hm.intKey hee], ?_⟩
    have hdl : (done.map fun e : MapEntry => kI e.key).length < m.length := by
      have h1 := hw.perm.length_eq
      have h2 : 0 < (leftOf es seen).toList.length := List.length_pos_of_mem he
      rw [List.length_append] at h1
      rw [List.length_map, ← hm.size]
      simp only [Array.length_toList] at h1 h2
      omega
    refine (round r (.mapIter (some mb) clock (seen.push e.born) clock) (done.map fun e : MapEntry => kI e.key) (kI e.key) h3 hdl ((H3.mv 2).mv 2)).mono ?_
    rintro r' h4 ⟨go, rfl, hgo, hstop⟩
    rw [DB_bool]
    cases go with
    | false => exact ⟨rfl, hstop rfl⟩
    | true =>
      rw [Bool.not_true, cond_false]
      have H4 := (hgo rfl).mv 2
      refine ⟨⟨seen.push e.born, done ++ [e], clock, ?_, hw.step hn he, Nat.le_refl _⟩, ?_⟩
      · rw [List.map_append]
        exact H4
      · have a1 : leftAt ⟨r, 0, none⟩ h4 = (leftOf es (seen.push e.born)).size := by
          unfold leftAt
          simp only [H4.get, (H4.mv 2).get]
        have a2 : leftAt ⟨r, 0, none⟩ h2 = (leftOf es seen).size := by
          unfold leftAt
          simp only [H2.get, hmb]
        show leftAt ⟨r, 0, none⟩ h4 < leftAt ⟨r, 0, none⟩ h2
        rw [a1, a2]
        exact Walked.less hn he

theorem F179_spec {m0 : Option Nat} {h : Heap} {F : List HProp} (H : sat F h) : CallsH Tryz.prog 179 [.map m0] h fun v h' => ∃ b, v = .func (.func 192) #[] #[.pointer (some ⟨b, 0, none⟩)] ∧ sat (pt b (.cells #[.map m0] 131 (0, 0)) :: F) h' := by
  apply F179_ok
  unfold F179
  exact Al_sat H fun b h1 H1 => ⟨b, rfl, H1⟩
theorem F190B_spec {cb mb : Nat} {m : List (Int × Value)} {h : Heap} {F : List HProp} (H : sat (pt cb (.cells #[.map (some mb)] 131 (0, 0)) :: ownM (intKeys .i64) mb m :: F) h) (hmax : m.length < 1099511627776) :
    CallsH Tryz.prog 190 [.slice none 0 0, .func (.func 192) #[] #[.pointer (some ⟨cb, 0, none⟩)]] h fun v h' => ∃ (a : Option Addr) (c : Nat) (ks : List Int), ks.Perm (m.map (·.1)) ∧ v = .slice a ks.length c ∧ sat (ownS 2 1 a ks.length c (ks.map iv) :: ownM (intKeys .i64) mb m :: F) h' := by
  apply F190_ok
  unfold F190
  refine Al_sat H fun b0 h1 H1 => ?_
  obtain ⟨es, clock, hm, H2⟩ := ownM_open (H1.mv 2)
  intro rec hrec hy
  refine CallF_fn ?_
  have H3 := (H2.push (.deferred (some []))).push (rec .ready none)
  rw [Array.size_push] at H3
  -- L, D, mb, b0, cb, F
  have Hs : sat (pt cb (.cells #[.map (some mb)] 131 (0, 0)) :: pt mb (.map es clock) :: pt (h1.size + 1) (rec .ready none) :: pt h1.size (.deferred (some [])) :: listI b0 [] :: F) ((h1.push (.deferred (some []))).push (rec .ready none)) := by
    have K := ownS_nil 2 1 (H3.mv 3)
    have K2 := K.mv 1
    have K3 : sat ([pt b0 (.cells #[.slice none 0 0] 166 (0, 0)), ownS 2 1 none 0 0 []] ++ (pt (h1.size + 1) (rec .ready none) :: pt h1.size (.deferred (some [])) :: pt mb (.map es clock) :: pt cb (.cells #[.map (some mb)] 131 (0, 0)) :: F)) ((h1.push (.deferred (some []))).push (rec .ready none)) := K2
    have K4 : sat (listI b0 [] :: (pt (h1.size + 1) (rec .ready none) :: pt h1.size (.deferred (some [])) :: pt mb (.map es clock) :: pt cb (.cells #[.map (some mb)] 131 (0, 0)) :: F)) ((h1.push (.deferred (some []))).push (rec .ready none)) := sat_exi.2 ⟨(none, 0, 0), K3.shut⟩
    exact (((K4.mv 2).mv 2).mv 3).mv 4
  refine (F192_spec hm (fun done => pt (h1.size + 1) (rec .ready none) :: pt h1.size (.deferred (some [])) :: listI b0 done :: F)
    (fun h2 => ∃ ks : List Int, ks.Perm (m.map (·.1)) ∧ sat (pt (h1.size + 1) (rec .ready none) :: pt h1.size (.deferred (some [])) :: listI b0 ks :: pt mb (.map es clock) :: F) h2) Hs ?_ ?_).mono ?_
  · intro r o done k h4 hdl H4
    refine CallV_yield ?_
    have hL := (H4.mv 3).get
    refine hy _ _ _ rfl hL ⟨k, rfl, hL, ?_⟩
    have H5 := ((H4.mv 3).set (rec .busy none)).mv 5
    obtain ⟨⟨la, ll, lc⟩, H6⟩ := sat_exi.1 H5
    have H7 := H6.open
    obtain ⟨hll, hllc, hlcm⟩ := ownS_len H7.drop
    simp only [List.length_map, Nat.mul_one] at hll hllc hlcm
    refine ⟨.slice la ll lc, by rw [cellAt_of H7.get]; rfl, ?_⟩
    show DSl (.slice la ll lc) _
    rw [DSl_slice]
    refine Al_sat H7 fun b1 h8 H8 => ?_
    have hr : RdC h8 (some ⟨b1, 0, none⟩) [.int .i64 k] := by
      intro j v hv
      rw [cell_of_pt H8.get]
      simpa using hv
    refine append1 u166 src166 inf2 (H8.mv 2) (srcOf_slice hr rfl) (by intro u hu; simp at hu; subst hu; rfl) (by omega) fun a' c' h9 _ H9 => ?_
    rw [DSl_slice]
    simp only [addr_add0]
    refine StC_sat (H9.mv 2) Nat.zero_lt_one (nofz_zero 1 0 (by decide)) fun h10 H10 => ?_
    have H11 := H10.mv 3
    refine ⟨H11.get, true, rfl, fun _ => ?_, fun e => by cases e⟩
    have H12 := ((((H11.set (rec .ready none)).mv 3).drop).mv 2).mv 2
    have H13 : sat ([pt b0 (.cells #[.slice a' (ll + 1) c'] 166 (0, 0)), ownS 2 1 a' (ll + 1) c' ((done ++ [k]).map iv)] ++ (pt (h1.size + 1) (rec .ready none) :: pt cb (.cells #[.map (some mb)] 131 (0, 0)) :: pt mb (.map es clock) :: pt r o :: pt h1.size (.deferred (some [])) :: F)) (h10.setIfInBounds (h1.size + 1) (rec .ready none)) := by
      rw [List.map_append]
      exact H12
    have H14 : sat (listI b0 (done ++ [k]) :: (pt (h1.size + 1) (rec .ready none) :: pt cb (.cells #[.map (some mb)] 131 (0, 0)) :: pt mb (.map es clock) :: pt r o :: pt h1.size (.deferred (some [])) :: F)) (h10.setIfInBounds (h1.size + 1) (rec .ready none)) := sat_exi.2 ⟨(a', ll + 1, c'), H13.shut⟩
    exact ((((H14.mv 5).mv 2).mv 5).mv 5).mv 5
  · intro ks h4 hp H4
    exact ⟨ks, hp, (((H4.mv 1).mv 4).mv 4).mv 4 |> fun hh => (((H4.drop.mv 3).mv 3).mv 3)⟩
  · rintro v h4 ⟨_, ks, hp, H4⟩
    refine ⟨.ready, none, H4.get, by decide, rfl, ?_⟩
    have H5 := (H4.set (rec .exhausted none)).mv 2
    obtain ⟨⟨la, ll, lc⟩, H6⟩ := sat_exi.1 H5
    have H7 := H6.open
    obtain ⟨hll, hllc, hlcm⟩ := ownS_len H7.drop
    simp only [List.length_map, Nat.mul_one] at hll hllc hlcm
    refine ⟨.slice la ll lc, by rw [cellAt_of H7.get]; rfl, ?_⟩
    show DSl (.slice la ll lc) _
    rw [DSl_slice]
    have H8 := H7.mv 3
    subst hll
    refine ⟨H8.get, la, lc, ks, hp, rfl, ?_⟩
    have H9 := (H8.set (.deferred none)).drop.drop
    -- ownS, L, mb, F
    exact (ownM_shut hm (((H9.mv 1).drop).mv 1)).mv 1

theorem F144B_spec {cb mb : Nat} {m : List (Int × Value)} {h : Heap} {F : List HProp} (H : sat (pt cb (.cells #[.map (some mb)] 131 (0, 0)) :: ownM (intKeys .i64) mb m :: F) h) (hmax : m.length < 1099511627776) :
    CallsH Tryz.prog 144 [.func (.func 192) #[] #[.pointer (some ⟨cb, 0, none⟩)]] h fun v h' => ∃ (a : Option Addr) (c : Nat), v = .slice a m.length c ∧ sat (ownS 2 1 a m.length c ((sortI (m.map (·.1))).map iv) :: ownM (intKeys .i64) mb m :: F) h' := by
  apply F144_ok
  unfold F144
  have step : CallsH Tryz.prog 175 [.func (.func 192) #[] #[.pointer (some ⟨cb, 0, none⟩)]] h fun v h' => ∃ (a : Option Addr) (c : Nat) (ks : List Int), ks.Perm (m.map (·.1)) ∧ v = .slice a ks.length c ∧ sat (ownS 2 1 a ks.length c (ks.map iv) :: ownM (intKeys .i64) mb m :: F) h' := by
    apply F175_ok
    unfold F175
    refine (F190B_spec H hmax).mono ?_
    rintro v h1 ⟨a, c, ks, hp, rfl, H1⟩
    rw [DSl_slice]
    exact ⟨a, c, ks, hp, rfl, H1⟩
  refine step.mono ?_
  rintro v h1 ⟨a, c, ks, hp, rfl, H1⟩
  rw [DSl_slice]
  have hkl : ks.length = m.length := by rw [hp.length_eq, List.length_map]
  refine (F176_spec H1 (by omega)).mono ?_
  rintro v h2 ⟨rfl, H2⟩
  refine ⟨rfl, a, c, by rw [hkl], ?_⟩
  rw [hkl] at H2
  have e : sortI ks = sortI (m.map (·.1)) := sortI_same hp
  rw [← e]
  exact H2
/-- The values by rising numbers: what hands them on. -/
theorem F153_spec {mb : Nat} {m : List (Int × Value)} {h : Heap} {F : List HProp} (H : sat (ownM (intKeys .i64) mb m :: F) h) (hmax : m.length < 1099511627776) :
    CallsH Tryz.prog 153 [.map (some mb)] h fun v h' => ∃ (kb tb : Nat) (a : Option Addr) (c : Nat), v = .func (.func 180) #[] #[.pointer (some ⟨kb, 0, none⟩), .pointer (some ⟨tb, 0, none⟩)] ∧
      sat (RiseK kb tb mb a c 131 (sortI (m.map (·.1))) :: ownM (intKeys .i64) mb m :: F) h' := by
  apply F153_ok
  unfold F153
  refine Al_sat H fun tb h1 H1 => ?_
  refine ⟨.map (some mb), by rw [cellAt_of H1.get]; rfl, ?_⟩
  show DM (.map (some mb)) _
  rw [DM_map]
  refine (F179_spec H1).mono ?_
  rintro v h2 ⟨cb, rfl, H2⟩
  refine ⟨_, rfl, ?_⟩
  refine (F144B_spec (cb := cb) (mb := mb) (m := m) (H2.ordT 3 [0, 2, 1]) hmax).mono ?_
  rintro v h3 ⟨a, c, rfl, H3⟩
  rw [DSl_slice]
  refine Al_sat H3 fun kb h4 H4 => ?_
  refine stV H4 fun h5 H5 => ?_
  refine ⟨kb, tb, a, c, rfl, ?_⟩
  have hl : (sortI (m.map (·.1))).length = m.length := by rw [(sortI_perm _).length_eq, List.length_map]
  unfold RiseK
  rw [hl]
  exact sat.shut (m := [_, _, _]) (H5.ordT 4 [0, 3, 1, 2])
end Go.Proofs.YticjjdhaikbdaaaGreat
