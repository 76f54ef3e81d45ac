/- The sorted keys of a map of texts: maps.Keys and slices.Sorted as contracts over heaps. -/
import Derived.Test.YtibdiikcigokjaaGreatSkTs
import Derived.Test.YtibdiikcigokjaaGreatSkFwB
import Derived.Test.YtibdiikcigokjaaGreatSkTc
import Derived.Test.YtibdiikcigokjaaGreatSkTb
namespace Go.Proofs.YtibdiikcigokjaaGreat.TS
open Go Go.RowKit Go.MapKept
set_option linter.unusedVariables false
set_option linter.unusedSimpArgs false

/-- The iterator of a map's keys, run: each key is handed on until it is told to stop. -/
theorem F244_spec {yv : Value} {cb mb : Nat} {m : List (ByteArray × Value)} {es : Array MapEntry} {clock : Nat} {h : Heap} (hm : MapIs strKeys es clock m) (G : List ByteArray → List HProp) (Out : Heap → Prop)
    (start : sat (pt cb (.cells #[.map (some mb)] 175 (0, 0)) :: pt mb (.map es clock) :: G []) h)
    (round : ∀ (r : Nat) (o : Obj) done k h2, done.length < m.length → sat (pt cb (.cells #[.map (some mb)] 175 (0, 0)) :: pt mb (.map es clock) :: pt r o :: G done) h2 →
      CallV Tryz.prog yv [.string k] h2 fun r' h3 => ∃ go, r' = .bool go ∧ (go = true → sat (pt cb (.cells #[.map (some mb)] 175 (0, 0)) :: pt mb (.map es clock) :: pt r o :: G (done ++ [k])) h3) ∧ (go = false → Out h3))
    (fin : ∀ ks h2, ks.Perm (m.map (·.1)) → sat (pt cb (.cells #[.map (some mb)] 175 (0, 0)) :: pt mb (.map es clock) :: G ks) h2 → Out h2) :
    CallsH Tryz.prog 244 [yv, .pointer (some ⟨cb, 0, none⟩)] h fun v h' => v = .tuple #[] ∧ Out h' := by
  apply F244_ok
  unfold F244
  refine ⟨.map (some mb), by rw [cellAt_of start.get]; rfl, ?_⟩
  show DM (.map (some mb)) _
  rw [DM_map]
  have hn := hm.1.2.1
  refine range_sat (k := 9) (e := 9) (by kernel_rfl) start (start.mv 1).get fun r h1 H1 => ?_
  rw [DP_pointer]
  refine ⟨fun _ h2 => ∃ seen done c0, sat (pt r (.mapIter (some mb) clock seen c0) :: pt cb (.cells #[.map (some mb)] 175 (0, 0)) :: pt mb (.map es clock) :: G (done.map fun e : MapEntry => kS e.key)) h2 ∧ Walked es seen done ∧ clock ≤ c0,
    fun _ h2 => leftAt ⟨r, 0, none⟩ h2, ⟨#[], [], clock, H1, Walked.start es, Nat.le_refl _⟩, ?_⟩
  rintro _ h2 ⟨seen, done, c0, H2, hw, hc⟩
  have hmb := (H2.mv 2).get
  refine next_sat H2 hmb hm.1.1 hc ?_ ?_
  · intro h0
    refine .inl ⟨rfl, rfl, fin (done.map fun e : MapEntry => kS e.key) h2 ?_ H2.drop⟩
    rw [← hm.keysOf]
    exact (hw.fin h0).map _
  · intro e he h3 H3
    have hmb3 := (H3.mv 2).get
    have hee := Walked.mem he
    refine .inr ⟨_, _, rfl, ?_⟩
    refine entry_sat H3 hmb3 hee hn ?_
    refine ⟨kS e.key, e.val, by rw [← hm.strKey hee], ?_⟩
    have hdl : (done.map fun e : MapEntry => kS e.key).length < m.length := by
      have h1 := hw.perm.length_eq
      have h2 : 0 < (leftOf es seen).toList.length := List.length_pos_of_mem he
      rw [List.length_append] at h1
      rw [List.length_map, ← hm.size]
      simp only [Array.length_toList] at h1 h2
      omega
    refine (round r (.mapIter (some mb) clock (seen.push e.born) clock) (done.map fun e : MapEntry => kS e.key) (kS e.key) h3 hdl ((H3.mv 2).mv 2)).mono ?_
    rintro r' h4 ⟨go, rfl, hgo, hstop⟩
    rw [DB_bool]
    cases go with
    | false => exact ⟨rfl, hstop rfl⟩
    | true =>
      rw [Bool.not_true, cond_false]
      have H4 := (hgo rfl).mv 2
      refine ⟨⟨seen.push e.born, done ++ [e], clock, ?_, hw.step hn he, Nat.le_refl _⟩, ?_⟩
      · rw [List.map_append]
        exact H4
      · have a1 : leftAt ⟨r, 0, none⟩ h4 = (leftOf es (seen.push e.born)).size := by
          unfold leftAt
          simp only [H4.get, (H4.mv 2).get]
        have a2 : leftAt ⟨r, 0, none⟩ h2 = (leftOf es seen).size := by
          unfold leftAt
          simp only [H2.get, hmb]
        show leftAt ⟨r, 0, none⟩ h4 < leftAt ⟨r, 0, none⟩ h2
        rw [a1, a2]
        exact Walked.less hn he

end Go.Proofs.YtibdiikcigokjaaGreat.TS
