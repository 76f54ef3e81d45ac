/- slices.Sorted(maps.Keys(m)). -/
import Derived.Test.YtibdiikcigokjaaGreatSkFsA
import Derived.Test.YtibdiikcigokjaaGreatSkFs1S
namespace Go.Proofs.YtibdiikcigokjaaGreat.TS
open Go Go.RowKit Go.MapKept
set_option linter.unusedVariables false
set_option linter.unusedSimpArgs false

theorem u41 : Tryz.prog.underlying 97 = some (.slice 9) := by kernel_rfl
theorem src41 : srcTy Tryz.prog 97 = true := by kernel_rfl
theorem inf9 : infoOk Tryz.prog 9 16 = true := by kernel_rfl

theorem F214_spec {m0 : Option Nat} {h : Heap} {F : List HProp} (H : sat F h) : CallsH Tryz.prog 214 [.map m0] h fun v h' => ∃ b, v = .func (.func 244) #[] #[.pointer (some ⟨b, 0, none⟩)] ∧ sat (pt b (.cells #[.map m0] 175 (0, 0)) :: F) h' := by
  apply F214_ok
  unfold F214
  exact Al_sat H fun b h1 H1 => ⟨b, rfl, H1⟩
def listS (b : Nat) (done : List ByteArray) : HProp := exi fun q : Option Addr × Nat × Nat => Many [pt b (.cells #[.slice q.1 q.2.1 q.2.2] 97 (0, 0)), ownS 9 1 q.1 q.2.1 q.2.2 (done.map Value.string)]
theorem F184_spec {cb mb : Nat} {m : List (ByteArray × Value)} {h : Heap} {F : List HProp} (H : sat (pt cb (.cells #[.map (some mb)] 175 (0, 0)) :: ownM strKeys mb m :: F) h) (hmax : m.length < 1099511627776) :
    CallsH Tryz.prog 184 [.slice none 0 0, .func (.func 244) #[] #[.pointer (some ⟨cb, 0, none⟩)]] h fun v h' => ∃ (a : Option Addr) (c : Nat) (ks : List ByteArray), ks.Perm (m.map (·.1)) ∧ v = .slice a ks.length c ∧ sat (ownS 9 1 a ks.length c (ks.map Value.string) :: ownM strKeys mb m :: F) h' := by
  apply F184_ok
  unfold F184
  refine Al_sat H fun b0 h1 H1 => ?_
  obtain ⟨es, clock, hm, H2⟩ := ownM_open (H1.mv 2)
  intro rec hrec hy
  refine CallF_fn ?_
  have H3 := (H2.push (.deferred (some []))).push (rec .ready none)
  rw [Array.size_push] at H3
  -- L, D, mb, b0, cb, F
  have Hs : sat (pt cb (.cells #[.map (some mb)] 175 (0, 0)) :: pt mb (.map es clock) :: pt (h1.size + 1) (rec .ready none) :: pt h1.size (.deferred (some [])) :: listS b0 [] :: F) ((h1.push (.deferred (some []))).push (rec .ready none)) := by
    have K := ownS_nil 9 1 (H3.mv 3)
    have K2 := K.mv 1
    have K3 : sat ([pt b0 (.cells #[.slice none 0 0] 97 (0, 0)), ownS 9 1 none 0 0 []] ++ (pt (h1.size + 1) (rec .ready none) :: pt h1.size (.deferred (some [])) :: pt mb (.map es clock) :: pt cb (.cells #[.map (some mb)] 175 (0, 0)) :: F)) ((h1.push (.deferred (some []))).push (rec .ready none)) := K2
    have K4 : sat (listS b0 [] :: (pt (h1.size + 1) (rec .ready none) :: pt h1.size (.deferred (some [])) :: pt mb (.map es clock) :: pt cb (.cells #[.map (some mb)] 175 (0, 0)) :: F)) ((h1.push (.deferred (some []))).push (rec .ready none)) := sat_exi.2 ⟨(none, 0, 0), K3.shut⟩
    exact (((K4.mv 2).mv 2).mv 3).mv 4
  refine (F244_spec hm (fun done => pt (h1.size + 1) (rec .ready none) :: pt h1.size (.deferred (some [])) :: listS b0 done :: F)
    (fun h2 => ∃ ks : List ByteArray, ks.Perm (m.map (·.1)) ∧ sat (pt (h1.size + 1) (rec .ready none) :: pt h1.size (.deferred (some [])) :: listS b0 ks :: pt mb (.map es clock) :: F) h2) Hs ?_ ?_).mono ?_
  · intro r o done k h4 hdl H4
    refine CallV_yield ?_
    have hL := (H4.mv 3).get
    refine hy _ _ _ rfl hL ⟨k, rfl, hL, ?_⟩
    have H5 := ((H4.mv 3).set (rec .busy none)).mv 5
    obtain ⟨⟨la, ll, lc⟩, H6⟩ := sat_exi.1 H5
    have H7 := H6.open
    obtain ⟨hll, hllc, hlcm⟩ := ownS_len H7.drop
    simp only [List.length_map, Nat.mul_one] at hll hllc hlcm
    refine ⟨.slice la ll lc, by rw [cellAt_of H7.get]; rfl, ?_⟩
    show DSl (.slice la ll lc) _
    rw [DSl_slice]
    refine Al_sat H7 fun b1 h8 H8 => ?_
    have hr : RdC h8 (some ⟨b1, 0, none⟩) [.string k] := by
      intro j v hv
      rw [cell_of_pt H8.get]
      simpa using hv
    refine append1 u41 src41 inf9 (H8.mv 2) (srcOf_slice hr rfl) (by intro u hu; simp at hu; subst hu; rfl) (by omega) fun a' c' h9 _ H9 => ?_
    rw [DSl_slice]
    simp only [addr_add0]
    refine StC_sat (H9.mv 2) Nat.zero_lt_one (nofz_zero 1 0 (by decide)) fun h10 H10 => ?_
    have H11 := H10.mv 3
    refine ⟨H11.get, true, rfl, fun _ => ?_, fun e => by cases e⟩
    have H12 := ((((H11.set (rec .ready none)).mv 3).drop).mv 2).mv 2
    have H13 : sat ([pt b0 (.cells #[.slice a' (ll + 1) c'] 97 (0, 0)), ownS 9 1 a' (ll + 1) c' ((done ++ [k]).map Value.string)] ++ (pt (h1.size + 1) (rec .ready none) :: pt cb (.cells #[.map (some mb)] 175 (0, 0)) :: pt mb (.map es clock) :: pt r o :: pt h1.size (.deferred (some [])) :: F)) (h10.setIfInBounds (h1.size + 1) (rec .ready none)) := by
      rw [List.map_append]
      exact H12
    have H14 : sat (listS b0 (done ++ [k]) :: (pt (h1.size + 1) (rec .ready none) :: pt cb (.cells #[.map (some mb)] 175 (0, 0)) :: pt mb (.map es clock) :: pt r o :: pt h1.size (.deferred (some [])) :: F)) (h10.setIfInBounds (h1.size + 1) (rec .ready none)) := sat_exi.2 ⟨(a', ll + 1, c'), H13.shut⟩
    exact ((((H14.mv 5).mv 2).mv 5).mv 5).mv 5
  · intro ks h4 hp H4
    exact ⟨ks, hp, (((H4.mv 1).mv 4).mv 4).mv 4 |> fun hh => (((H4.drop.mv 3).mv 3).mv 3)⟩
  · rintro v h4 ⟨_, ks, hp, H4⟩
    refine ⟨.ready, none, H4.get, by decide, rfl, ?_⟩
    have H5 := (H4.set (rec .exhausted none)).mv 2
    obtain ⟨⟨la, ll, lc⟩, H6⟩ := sat_exi.1 H5
    have H7 := H6.open
    obtain ⟨hll, hllc, hlcm⟩ := ownS_len H7.drop
    simp only [List.length_map, Nat.mul_one] at hll hllc hlcm
    refine ⟨.slice la ll lc, by rw [cellAt_of H7.get]; rfl, ?_⟩
    show DSl (.slice la ll lc) _
    rw [DSl_slice]
    have H8 := H7.mv 3
    subst hll
    refine ⟨H8.get, la, lc, ks, hp, rfl, ?_⟩
    have H9 := (H8.set (.deferred none)).drop.drop
    -- ownS, L, mb, F
    exact (ownM_shut hm (((H9.mv 1).drop).mv 1)).mv 1

theorem F62_spec {cb mb : Nat} {m : List (ByteArray × Value)} {h : Heap} {F : List HProp} (H : sat (pt cb (.cells #[.map (some mb)] 175 (0, 0)) :: ownM strKeys mb m :: F) h) (hmax : m.length < 1099511627776) :
    CallsH Tryz.prog 62 [.func (.func 244) #[] #[.pointer (some ⟨cb, 0, none⟩)]] h fun v h' => ∃ (a : Option Addr) (c : Nat), v = .slice a m.length c ∧ sat (ownS 9 1 a m.length c ((sortB (m.map (·.1))).map Value.string) :: ownM strKeys mb m :: F) h' := by
  apply F62_ok
  unfold F62
  have step : CallsH Tryz.prog 129 [.func (.func 244) #[] #[.pointer (some ⟨cb, 0, none⟩)]] h fun v h' => ∃ (a : Option Addr) (c : Nat) (ks : List ByteArray), ks.Perm (m.map (·.1)) ∧ v = .slice a ks.length c ∧ sat (ownS 9 1 a ks.length c (ks.map Value.string) :: ownM strKeys mb m :: F) h' := by
    apply F129_ok
    unfold F129
    refine (F184_spec H hmax).mono ?_
    rintro v h1 ⟨a, c, ks, hp, rfl, H1⟩
    rw [DSl_slice]
    exact ⟨a, c, ks, hp, rfl, H1⟩
  refine step.mono ?_
  rintro v h1 ⟨a, c, ks, hp, rfl, H1⟩
  rw [DSl_slice]
  have hkl : ks.length = m.length := by rw [hp.length_eq, List.length_map]
  cases a with
  | none =>
    have hk0 : ks = [] := by
      have h0 : ks.map Value.string = [] := ownS_read H1
      exact List.map_eq_nil_iff.1 h0
    subst hk0
    have hm0 : m.length = 0 := by simpa using hkl.symm
    have hc : CallsH Tryz.prog 130 [.slice none 0 c] h1 fun v h' => v = .tuple #[] ∧ h' = h1 := by
      refine ⟨by kernel_rfl, fun w hw => callsIn_wide.2 ((Tryz.slices_Sort_string_none none c w).mono ?_)⟩
      rintro e w' ⟨rfl, rfl⟩
      exact ⟨_, rfl, ⟨rfl, hw⟩, .refl w'⟩
    refine hc.mono ?_
    rintro v h2 ⟨rfl, rfl⟩
    refine ⟨rfl, none, c, by rw [hm0]; rfl, ?_⟩
    rw [hm0, ← sortB_perm hp, show sortB [] = [] from by simp [sortB]]
    exact H1
  | some a =>
    obtain ⟨hl, ⟨e1, _⟩ | ⟨b, cells, fr, e1, _⟩⟩ := ownS_cases H1
    · cases e1
    · simp only [Option.some.injEq] at e1
      subst e1
      refine (F130_spec H1 (by omega)).mono ?_
      rintro v h2 ⟨rfl, H2⟩
      refine ⟨rfl, some ⟨b, 0, none⟩, c, by rw [hkl], ?_⟩
      rw [← hkl, ← sortB_perm hp]
      exact H2

end Go.Proofs.YtibdiikcigokjaaGreat.TS
