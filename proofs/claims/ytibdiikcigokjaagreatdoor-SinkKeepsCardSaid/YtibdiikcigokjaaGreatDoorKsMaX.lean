/- Ranges over maps of numbers; the numbers sorted; the values by rising numbers. -/
import Derived.Test.YtibdiikcigokjaaGreatDoorKsMt1
import Derived.Test.YtibdiikcigokjaaGreatDoorKsTs
import Derived.Test.YtibdiikcigokjaaGreatDoorKsMLib
namespace Go.Proofs.YtibdiikcigokjaaGreatDoor
open Go Go.RowKit Go.MapKept
set_option linter.unusedVariables false
set_option linter.unusedSimpArgs false
def kI : Value → Int
 | .int _ n => n
 | _ => 0
theorem MapIs.intKey {es : Array MapEntry} {clock : Nat} {m : List (Int × Value)} (hm : MapIs (intKeys .i64) es clock m) {e : MapEntry} (he : e ∈ es.toList) : e.key = .int .i64 (kI e.key) := by
 have : (e.key, e.val) ∈ es.toList.map (fun e : MapEntry => (e.key, e.val)) := List.mem_map.2 ⟨e, he, rfl⟩
 rw [hm.2] at this
 obtain ⟨p, _, hp⟩ := List.mem_map.1 this
 have h1 : e.key = .int .i64 p.1 := (congrArg Prod.fst hp).symm
 rw [h1]
 rfl
theorem MapIs.keysI {es : Array MapEntry} {clock : Nat} {m : List (Int × Value)} (hm : MapIs (intKeys .i64) es clock m) : es.toList.map (fun e : MapEntry => kI e.key) = m.map (·.1) := by
 have := congrArg (List.map fun p : Value × Value => kI p.1) hm.2
 simpa [List.map_map, Function.comp_def, intKeys, kI] using this
theorem MapIs.pairsI {es : Array MapEntry} {clock : Nat} {m : List (Int × Value)} (hm : MapIs (intKeys .i64) es clock m) : es.toList.map (fun e : MapEntry => (kI e.key, e.val)) = m := by
 have := congrArg (List.map fun p : Value × Value => (kI p.1, p.2)) hm.2
 simpa [List.map_map, Function.comp_def, intKeys, kI] using this
theorem mapLoopI {P : Program} {S : Type} {ty : TypeId} {p mb : Nat} {m : List (Int × Value)} {es : Array MapEntry} {clock : Nat} (hm : MapIs (intKeys .i64) es clock m) (st : List (Int × Value) → S) {G : List (Int × Value) → List HProp} {End : S → Heap → Prop} {Body : (S → Heap → Prop) → S → Value → Heap → Prop} {h : Heap}
  (start : sat (pt p (.mapIter (some mb) clock #[] clock) :: pt mb (.map es clock) :: G []) h)
  (fin : ∀ done h', done.Perm m → sat (pt mb (.map es clock) :: G done) h' → End (st done) h')
  (body : ∀ (o : Obj) done k v h' (again : S → Heap → Prop), (∃ rest, (done ++ (k, v) :: rest).Perm m) → sat (pt p o :: pt mb (.map es clock) :: G done) h' →
   (∀ h'', sat (pt p o :: pt mb (.map es clock) :: G (done ++ [(k, v)])) h'' → again (st (done ++ [(k, v)])) h'') → Body again (st done) (.tuple #[.int .i64 k, v]) h') :
  LoopH (fun again (s : S) h3 => RunH P (Instr.next (.pointer (some ⟨p, 0, none⟩)) false ty) h3 fun r2 h4 => (r2 = .tuple #[.bool false] ∧ End s h4) ∨
   (∃ k0 x1 : Value, r2 = .tuple #[.bool true, k0, x1] ∧ RunH P (Instr.entry (.pointer (some ⟨p, 0, none⟩))) h4 fun r3 h5 => Body again s r3 h5)) (st []) h := by
 have hn := hm.1.2.1
 refine ⟨fun s h2 => ∃ seen done c0, s = st (done.map fun e : MapEntry => (kI e.key, e.val)) ∧ sat (pt p (.mapIter (some mb) clock seen c0) :: pt mb (.map es clock) :: G (done.map fun e : MapEntry => (kI e.key, e.val))) h2 ∧ Walked es seen done ∧ clock ≤ c0,
  fun _ h2 => leftAt ⟨p, 0, none⟩ h2, ⟨#[], [], clock, rfl, start, Walked.start es, Nat.le_refl _⟩, ?_⟩
 rintro _ h2 ⟨seen, done, c0, rfl, H2, hw, hc⟩
 have hmb := (H2.mv 1).get
 refine next_sat H2 hmb hm.1.1 hc ?_ ?_
 · intro h0;refine .inl ⟨rfl, fin (done.map fun e : MapEntry => (kI e.key, e.val)) h2 ?_ H2.drop⟩;rw [← hm.pairsI];exact (hw.fin h0).map _
 · intro e he h3 H3;have hmb3 := (H3.mv 1).get;have hee := Walked.mem he;refine .inr ⟨_, _, rfl, ?_⟩;refine entry_sat H3 hmb3 hee hn ?_;rw [hm.intKey hee];refine body (.mapIter (some mb) clock (seen.push e.born) clock) (done.map fun e : MapEntry => (kI e.key, e.val)) (kI e.key) e.val h3 _ ?_ H3 fun h4 H4 => ⟨⟨seen.push e.born, done ++ [e], clock, ?_, ?_, hw.step hn he, Nat.le_refl _⟩, ?_⟩
   · refine ⟨(leftOf es (seen.push e.born)).toList.map fun e : MapEntry => (kI e.key, e.val), ?_⟩;have hp := (hw.step hn he).perm.map fun e : MapEntry => (kI e.key, e.val)
     rw [hm.pairsI] at hp;simpa using hp
   · rw [List.map_append]
     rfl
   · rw [List.map_append];exact H4
   · have a1 : leftAt ⟨p, 0, none⟩ h4 = (leftOf es (seen.push e.born)).size := by
      unfold leftAt;simp only [H4.get, (H4.mv 1).get]
     have a2 : leftAt ⟨p, 0, none⟩ h2 = (leftOf es seen).size := by
      unfold leftAt;simp only [H2.get, hmb]
     show leftAt ⟨p, 0, none⟩ h4 < leftAt ⟨p, 0, none⟩ h2;rw [a1, a2];exact Walked.less hn he
def sortI (l : List Int) : List Int := l.mergeSort fun x y => decide (x ≤ y)
theorem sortI_perm (l : List Int) : (sortI l).Perm l := List.mergeSort_perm _ _
theorem sortI_eq {l : List Int} {m : List Int} (hp : l.Perm m) (hm : m.Pairwise (· < ·)) : sortI l = m := by
 have tr : ∀ x y z : Int, decide (x ≤ y) = true → decide (y ≤ z) = true → decide (x ≤ z) = true := fun x y z h1 h2 => by
  simp only [decide_eq_true_eq] at h1 h2 ⊢;omega
 have to : ∀ x y : Int, (decide (x ≤ y) || decide (y ≤ x)) = true := fun x y => by
  simp only [Bool.or_eq_true, decide_eq_true_eq];omega
 refine List.Perm.eq_of_pairwise (le := fun x y => decide (x ≤ y) = true) ?_ (List.pairwise_mergeSort tr to _) (hm.imp fun h => by simp only [decide_eq_true_eq]; omega) ((List.mergeSort_perm _ _).trans hp)
 intro x y _ _ h1 h2
 simp only [decide_eq_true_eq] at h1 h2
 omega
theorem u166 : Tryz.prog.underlying 240 = some (.slice 2) := by kernel_rfl
theorem src166 : srcTy Tryz.prog 240 = true := by kernel_rfl
theorem inf2 : infoOk Tryz.prog 2 8 = true := by kernel_rfl
open Go.Sort in
theorem F232_spec {h : Heap} {F : List HProp} {a : Option Addr} {c : Nat} {zs : List Int} (H : sat (ownS 2 1 a zs.length c (zs.map iv) :: F) h) (hsz : zs.length < 4611686018427387904) :
  CallsH Tryz.prog 232 [.slice a zs.length c] h fun v h' => v = .tuple #[] ∧ sat (ownS 2 1 a zs.length c ((sortI zs).map iv) :: F) h' := by
 refine ⟨by kernel_rfl, fun w hw => ?_⟩
 subst hw
 obtain ⟨hl, ⟨rfl, h0, rfl, h1, H2⟩ | ⟨b, cells, fr, rfl, hlc, hcm, hcs, hfr, ht, H2⟩⟩ := ownS_cases H
 · have hz : zs = [] := List.map_eq_nil_iff.1 h1;subst hz;refine callsIn_wide.2 ((Tryz.slices_Sort_int232_none none 0 w).mono ?_);rintro e w' ⟨rfl, rfl⟩;refine ⟨_, rfl, ⟨rfl, ?_⟩, .refl _⟩;rw [show sortI [] = [] from by simp [sortI]];exact H
 · have hb := H2.get;have hlt := (Array.getElem?_eq_some_iff.1 hb).1;have hH : Go.Sort.Holds (Value.int .i64) w b 0 zs.toArray := by
    intro j hj;simp only [List.size_toArray] at hj;have hcj : cells[j]? = some (.int .i64 zs[j]) := by
     have h2 : (cells.toList.take (zs.length * 1))[j]? = (zs.map iv)[j]? := by rw [ht]
     rw [List.getElem?_take, if_pos (by omega), List.getElem?_map, List.getElem?_eq_getElem hj] at h2;simpa [iv] using h2
    refine ⟨?_, ?_⟩
    · rw [cell_world, cellAt_of hb, Nat.zero_add, hcj];simp [hj]
    · rw [frozen_world, frozenAt, hb];have hjs : j < cells.size := by
       rw [Array.getElem?_eq_some_iff] at hcj;exact hcj.1
      have := hfr j hjs;obtain ⟨lo, hi⟩ := fr;simp only at this ⊢;simp;omega
   refine callsIn_wide.2 ((Tryz.slices_Sort_int232 b 0 c zs w hH hlt hsz).mono ?_);rintro e w' ⟨rfl, n, os, rfl⟩;refine ⟨_, rfl, ⟨rfl, ?_⟩, ⟨rfl, rfl, rfl⟩⟩;have hD : (zs.mergeSort fun x y => decide (x ≤ y)) = sortI zs := rfl;rw [hD];have hDl : (sortI zs).length = zs.length := (sortI_perm zs).length_eq;have hup : sat (pt b (.cells (putCells (Value.int .i64) 0 (sortI zs).toArray cells) 2 fr) :: F) (grow (putRow (Value.int .i64) (Sort.ahead w n) b 0 (sortI zs).toArray) os).heap := by
    refine H2.upd _ ?_ ?_
    · show ((w.heap.modify b (onCells (putCells (Value.int .i64) 0 (sortI zs).toArray))) ++ os)[b]? = _;rw [Array.getElem?_append_left (by simpa using hlt), Array.getElem?_modify];simp [hb, onCells]
    · intro k hk hks;show ((w.heap.modify b (onCells (putCells (Value.int .i64) 0 (sortI zs).toArray))) ++ os)[k]? = _;rw [Array.getElem?_append_left (by simpa using hks), Array.getElem?_modify];simp [Ne.symm hk]
   have hcsz : (putCells (Value.int .i64) 0 (sortI zs).toArray cells).size = cells.size := by simp [putCells]
   refine ownS_mk hup (by rw [hcsz]; exact hfr) hlc hcm (by rw [hcsz]; exact hcs) ?_;apply List.ext_getElem?;intro j;rw [List.getElem?_take, List.getElem?_map];by_cases hj : j < zs.length
   · rw [if_pos (by omega), List.getElem?_eq_getElem (by omega : j < (sortI zs).length)];have hjc : j < cells.size := by omega
     simp [putCells, hjc, hDl, hj, iv]
   · rw [if_neg (by omega), List.getElem?_eq_none (by omega : (sortI zs).length ≤ j)]
     rfl
theorem sortI_same {a b : List Int} (h : a.Perm b) : sortI a = sortI b := by
 have tr : ∀ x y z : Int, decide (x ≤ y) = true → decide (y ≤ z) = true → decide (x ≤ z) = true := fun x y z h1 h2 => by
  simp only [decide_eq_true_eq] at h1 h2 ⊢;omega
 have to : ∀ x y : Int, (decide (x ≤ y) || decide (y ≤ x)) = true := fun x y => by
  simp only [Bool.or_eq_true, decide_eq_true_eq];omega
 refine List.Perm.eq_of_pairwise (le := fun x y => decide (x ≤ y) = true) ?_ (List.pairwise_mergeSort tr to _) (List.pairwise_mergeSort tr to _) (((List.mergeSort_perm _ _).trans h).trans (List.mergeSort_perm _ _).symm)
 intro x y _ _ h1 h2
 simp only [decide_eq_true_eq] at h1 h2
 omega
def RiseK (kb tb mb : Nat) (a : Option Addr) (c : Nat) (ty : TypeId) (ks : List Int) : HProp :=
 Many [pt kb (.cells #[.slice a ks.length c] 240 (0, 0)), pt tb (.cells #[.map (some mb)] ty (0, 0)), ownS 2 1 a ks.length c (ks.map iv)]
theorem F233_spec {yv : Value} {cb mb : Nat} {m : List (Int × Value)} {es : Array MapEntry} {clock : Nat} {h : Heap} (hm : MapIs (intKeys .i64) es clock m) (G : List Int → List HProp) (Out : Heap → Prop)
  (start : sat (pt cb (.cells #[.map (some mb)] 214 (0, 0)) :: pt mb (.map es clock) :: G []) h)
  (round : ∀ (r : Nat) (o : Obj) done k h2, done.length < m.length → sat (pt cb (.cells #[.map (some mb)] 214 (0, 0)) :: pt mb (.map es clock) :: pt r o :: G done) h2 →
   CallV Tryz.prog yv [.int .i64 k] h2 fun r' h3 => ∃ go, r' = .bool go ∧ (go = true → sat (pt cb (.cells #[.map (some mb)] 214 (0, 0)) :: pt mb (.map es clock) :: pt r o :: G (done ++ [k])) h3) ∧ (go = false → Out h3))
  (fin : ∀ ks h2, ks.Perm (m.map (·.1)) → sat (pt cb (.cells #[.map (some mb)] 214 (0, 0)) :: pt mb (.map es clock) :: G ks) h2 → Out h2) :
  CallsH Tryz.prog 233 [yv, .pointer (some ⟨cb, 0, none⟩)] h fun v h' => v = .tuple #[] ∧ Out h' := by
 apply F233_ok.ap
 unfold F233
 refine ⟨.map (some mb), by rw [cellAt_of start.get]; rfl, ?_⟩
 show DM (.map (some mb)) _
 rw [DM_map]
 have hn := hm.1.2.1
 refine range_sat (k := 2) (e := 85) (by kernel_rfl) start (start.mv 1).get fun r h1 H1 => ?_
 rw [DP_pointer]
 refine ⟨fun _ h2 => ∃ seen done c0, sat (pt r (.mapIter (some mb) clock seen c0) :: pt cb (.cells #[.map (some mb)] 214 (0, 0)) :: pt mb (.map es clock) :: G (done.map fun e : MapEntry => kI e.key)) h2 ∧ Walked es seen done ∧ clock ≤ c0,
  fun _ h2 => leftAt ⟨r, 0, none⟩ h2, ⟨#[], [], clock, H1, Walked.start es, Nat.le_refl _⟩, ?_⟩
 rintro _ h2 ⟨seen, done, c0, H2, hw, hc⟩
 have hmb := (H2.mv 2).get
 refine next_sat H2 hmb hm.1.1 hc ?_ ?_
 · intro h0;refine .inl ⟨rfl, rfl, fin (done.map fun e : MapEntry => kI e.key) h2 ?_ H2.drop⟩;rw [← hm.keysI];exact (hw.fin h0).map _
 · intro e he h3 H3;have hmb3 := (H3.mv 2).get;have hee := Walked.mem he;refine .inr ⟨_, _, rfl, ?_⟩;refine entry_sat H3 hmb3 hee hn ?_;refine ⟨kI e.key, e.val, by rw [← hm.intKey hee], ?_⟩;have hdl : (done.map fun e : MapEntry => kI e.key).length < m.length := by
    have h1 := hw.perm.length_eq;have h2 : 0 < (leftOf es seen).toList.length := List.length_pos_of_mem he;rw [List.length_append] at h1;rw [List.length_map, ← hm.size];simp only [Array.length_toList] at h1 h2;omega
   refine (round r (.mapIter (some mb) clock (seen.push e.born) clock) (done.map fun e : MapEntry => kI e.key) (kI e.key) h3 hdl ((H3.mv 2).mv 2)).mono ?_;rintro r' h4 ⟨go, rfl, hgo, hstop⟩;rw [DB_bool]
   cases go with
   | false => exact ⟨rfl, hstop rfl⟩
   | true =>
     rw [Bool.not_true, cond_false];have H4 := (hgo rfl).mv 2;refine ⟨⟨seen.push e.born, done ++ [e], clock, ?_, hw.step hn he, Nat.le_refl _⟩, ?_⟩
     · rw [List.map_append];exact H4
     · have a1 : leftAt ⟨r, 0, none⟩ h4 = (leftOf es (seen.push e.born)).size := by
        unfold leftAt;simp only [H4.get, (H4.mv 2).get]
       have a2 : leftAt ⟨r, 0, none⟩ h2 = (leftOf es seen).size := by
        unfold leftAt;simp only [H2.get, hmb]
       show leftAt ⟨r, 0, none⟩ h4 < leftAt ⟨r, 0, none⟩ h2;rw [a1, a2];exact Walked.less hn he
theorem F194_spec {m0 : Option Nat} {h : Heap} {F : List HProp} (H : sat F h) : CallsH Tryz.prog 194 [.map m0] h fun v h' => ∃ b, v = .func (.func 233) #[] #[.pointer (some ⟨b, 0, none⟩)] ∧ sat (pt b (.cells #[.map m0] 214 (0, 0)) :: F) h' := by
 apply F194_ok.ap
 unfold F194
 exact Al_sat H fun b h1 H1 => ⟨b, rfl, H1⟩
def listI (b : Nat) (done : List Int) : HProp := exi fun q : Option Addr × Nat × Nat => Many [pt b (.cells #[.slice q.1 q.2.1 q.2.2] 240 (0, 0)), ownS 2 1 q.1 q.2.1 q.2.2 (done.map iv)]
theorem F190K_spec {cb mb : Nat} {m : List (Int × Value)} {h : Heap} {F : List HProp} (H : sat (pt cb (.cells #[.map (some mb)] 214 (0, 0)) :: ownM (intKeys .i64) mb m :: F) h) (hmax : m.length < 1099511627776) :
  CallsH Tryz.prog 252 [.slice none 0 0, .func (.func 233) #[] #[.pointer (some ⟨cb, 0, none⟩)]] h fun v h' => ∃ (a : Option Addr) (c : Nat) (ks : List Int), ks.Perm (m.map (·.1)) ∧ v = .slice a ks.length c ∧ sat (ownS 2 1 a ks.length c (ks.map iv) :: ownM (intKeys .i64) mb m :: F) h' := by
 apply F252_ok.ap
 unfold F252
 refine Al_sat H fun b0 h1 H1 => ?_
 obtain ⟨es, clock, hm, H2⟩ := ownM_open (H1.mv 2)
 intro rec hrec hy
 refine CallF_fn ?_
 have H3 := (H2.push (.deferred (some []))).push (rec .ready none)
 rw [Array.size_push] at H3
 have Hs : sat (pt cb (.cells #[.map (some mb)] 214 (0, 0)) :: pt mb (.map es clock) :: pt (h1.size + 1) (rec .ready none) :: pt h1.size (.deferred (some [])) :: listI b0 [] :: F) ((h1.push (.deferred (some []))).push (rec .ready none)) := by
  have K := ownS_nil 2 1 (H3.mv 3);have K2 := K.mv 1;have K3 : sat ([pt b0 (.cells #[.slice none 0 0] 240 (0, 0)), ownS 2 1 none 0 0 []] ++ (pt (h1.size + 1) (rec .ready none) :: pt h1.size (.deferred (some [])) :: pt mb (.map es clock) :: pt cb (.cells #[.map (some mb)] 214 (0, 0)) :: F)) ((h1.push (.deferred (some []))).push (rec .ready none)) := K2;have K4 : sat (listI b0 [] :: (pt (h1.size + 1) (rec .ready none) :: pt h1.size (.deferred (some [])) :: pt mb (.map es clock) :: pt cb (.cells #[.map (some mb)] 214 (0, 0)) :: F)) ((h1.push (.deferred (some []))).push (rec .ready none)) := sat_exi.2 ⟨(none, 0, 0), K3.shut⟩;exact (((K4.mv 2).mv 2).mv 3).mv 4
 refine (F233_spec hm (fun done => pt (h1.size + 1) (rec .ready none) :: pt h1.size (.deferred (some [])) :: listI b0 done :: F)
  (fun h2 => ∃ ks : List Int, ks.Perm (m.map (·.1)) ∧ sat (pt (h1.size + 1) (rec .ready none) :: pt h1.size (.deferred (some [])) :: listI b0 ks :: pt mb (.map es clock) :: F) h2) Hs ?_ ?_).mono ?_
 · intro r o done k h4 hdl H4;refine CallV_yield ?_;have hL := (H4.mv 3).get;refine hy _ _ _ rfl hL ⟨k, rfl, hL, ?_⟩;have H5 := ((H4.mv 3).set (rec .busy none)).mv 5;obtain ⟨⟨la, ll, lc⟩, H6⟩ := sat_exi.1 H5;have H7 := H6.open;obtain ⟨hll, hllc, hlcm⟩ := ownS_len H7.drop;simp only [List.length_map, Nat.mul_one] at hll hllc hlcm;refine ⟨.slice la ll lc, by rw [cellAt_of H7.get]; rfl, ?_⟩;show DSl (.slice la ll lc) _;rw [DSl_slice];refine Al_sat H7 fun b1 h8 H8 => ?_;have hr : RdC h8 (some ⟨b1, 0, none⟩) [.int .i64 k] := by
    intro j v hv;rw [cell_of_pt H8.get];simpa using hv
   refine append1 u166 src166 inf2 (H8.mv 2) (srcOf_slice hr rfl) (by intro u hu; simp at hu; subst hu; rfl) (by omega) fun a' c' h9 _ H9 => ?_;rw [DSl_slice];simp only [addr_add0];refine StC_sat (H9.mv 2) Nat.zero_lt_one (nofz_zero 1 0 (by decide)) fun h10 H10 => ?_;have H11 := H10.mv 3;refine ⟨H11.get, true, rfl, fun _ => ?_, fun e => by cases e⟩;have H12 := ((((H11.set (rec .ready none)).mv 3).drop).mv 2).mv 2;have H13 : sat ([pt b0 (.cells #[.slice a' (ll + 1) c'] 240 (0, 0)), ownS 2 1 a' (ll + 1) c' ((done ++ [k]).map iv)] ++ (pt (h1.size + 1) (rec .ready none) :: pt cb (.cells #[.map (some mb)] 214 (0, 0)) :: pt mb (.map es clock) :: pt r o :: pt h1.size (.deferred (some [])) :: F)) (h10.setIfInBounds (h1.size + 1) (rec .ready none)) := by
    rw [List.map_append];exact H12
   have H14 : sat (listI b0 (done ++ [k]) :: (pt (h1.size + 1) (rec .ready none) :: pt cb (.cells #[.map (some mb)] 214 (0, 0)) :: pt mb (.map es clock) :: pt r o :: pt h1.size (.deferred (some [])) :: F)) (h10.setIfInBounds (h1.size + 1) (rec .ready none)) := sat_exi.2 ⟨(a', ll + 1, c'), H13.shut⟩;exact ((((H14.mv 5).mv 2).mv 5).mv 5).mv 5
 · intro ks h4 hp H4;exact ⟨ks, hp, (((H4.mv 1).mv 4).mv 4).mv 4 |> fun hh => (((H4.drop.mv 3).mv 3).mv 3)⟩
 · rintro v h4 ⟨_, ks, hp, H4⟩;refine ⟨.ready, none, H4.get, by decide, rfl, ?_⟩;have H5 := (H4.set (rec .exhausted none)).mv 2;obtain ⟨⟨la, ll, lc⟩, H6⟩ := sat_exi.1 H5;have H7 := H6.open;obtain ⟨hll, hllc, hlcm⟩ := ownS_len H7.drop;simp only [List.length_map, Nat.mul_one] at hll hllc hlcm;refine ⟨.slice la ll lc, by rw [cellAt_of H7.get]; rfl, ?_⟩;show DSl (.slice la ll lc) _;rw [DSl_slice];have H8 := H7.mv 3;subst hll;refine ⟨H8.get, la, lc, ks, hp, rfl, ?_⟩;have H9 := (H8.set (.deferred none)).drop.drop;exact (ownM_shut hm (((H9.mv 1).drop).mv 1)).mv 1
theorem F193_spec {cb mb : Nat} {m : List (Int × Value)} {h : Heap} {F : List HProp} (H : sat (pt cb (.cells #[.map (some mb)] 214 (0, 0)) :: ownM (intKeys .i64) mb m :: F) h) (hmax : m.length < 1099511627776) :
  CallsH Tryz.prog 193 [.func (.func 233) #[] #[.pointer (some ⟨cb, 0, none⟩)]] h fun v h' => ∃ (a : Option Addr) (c : Nat), v = .slice a m.length c ∧ sat (ownS 2 1 a m.length c ((sortI (m.map (·.1))).map iv) :: ownM (intKeys .i64) mb m :: F) h' := by
 apply F193_ok.ap
 unfold F193
 have step : CallsH Tryz.prog 231 [.func (.func 233) #[] #[.pointer (some ⟨cb, 0, none⟩)]] h fun v h' => ∃ (a : Option Addr) (c : Nat) (ks : List Int), ks.Perm (m.map (·.1)) ∧ v = .slice a ks.length c ∧ sat (ownS 2 1 a ks.length c (ks.map iv) :: ownM (intKeys .i64) mb m :: F) h' := by
  apply F231_ok.ap;unfold F231;refine (F190K_spec H hmax).mono ?_;rintro v h1 ⟨a, c, ks, hp, rfl, H1⟩;rw [DSl_slice];exact ⟨a, c, ks, hp, rfl, H1⟩
 refine step.mono ?_
 rintro v h1 ⟨a, c, ks, hp, rfl, H1⟩
 rw [DSl_slice]
 have hkl : ks.length = m.length := by rw [hp.length_eq, List.length_map]
 refine (F232_spec H1 (by omega)).mono ?_
 rintro v h2 ⟨rfl, H2⟩
 refine ⟨rfl, a, c, by rw [hkl], ?_⟩
 rw [hkl] at H2
 have e : sortI ks = sortI (m.map (·.1)) := sortI_same hp
 rw [← e]
 exact H2
theorem F126_spec {mb : Nat} {m : List (Int × Value)} {h : Heap} {F : List HProp} (H : sat (ownM (intKeys .i64) mb m :: F) h) (hmax : m.length < 1099511627776) :
  CallsH Tryz.prog 126 [.map (some mb)] h fun v h' => ∃ (kb tb : Nat) (a : Option Addr) (c : Nat), v = .func (.func 195) #[] #[.pointer (some ⟨kb, 0, none⟩), .pointer (some ⟨tb, 0, none⟩)] ∧
   sat (RiseK kb tb mb a c 214 (sortI (m.map (·.1))) :: ownM (intKeys .i64) mb m :: F) h' := by
 apply F126_ok.ap
 unfold F126
 refine Al_sat H fun tb h1 H1 => ?_
 refine ⟨.map (some mb), by rw [cellAt_of H1.get]; rfl, ?_⟩
 show DM (.map (some mb)) _
 rw [DM_map]
 refine (F194_spec H1).mono ?_
 rintro v h2 ⟨cb, rfl, H2⟩
 refine ⟨_, rfl, ?_⟩
 refine (F193_spec (cb := cb) (mb := mb) (m := m) (H2.ordT 3 [0, 2, 1]) hmax).mono ?_
 rintro v h3 ⟨a, c, rfl, H3⟩
 rw [DSl_slice]
 refine Al_sat H3 fun kb h4 H4 => ?_
 refine stV H4 fun h5 H5 => ?_
 refine ⟨kb, tb, a, c, rfl, ?_⟩
 have hl : (sortI (m.map (·.1))).length = m.length := by rw [(sortI_perm _).length_eq, List.length_map]
 unfold RiseK
 rw [hl]
 exact sat.shut (m := [_, _, _]) (H5.ordT 4 [0, 3, 1, 2])
theorem F262_spec {yv : Value} {cb mb : Nat} {m : List (Int × Value)} {es : Array MapEntry} {clock : Nat} {h : Heap} (hm : MapIs (intKeys .i64) es clock m) (G : List Int → List HProp) (Out : Heap → Prop)
  (start : sat (pt cb (.cells #[.map (some mb)] 219 (0, 0)) :: pt mb (.map es clock) :: G []) h)
  (round : ∀ (r : Nat) (o : Obj) done k h2, done.length < m.length → sat (pt cb (.cells #[.map (some mb)] 219 (0, 0)) :: pt mb (.map es clock) :: pt r o :: G done) h2 →
   CallV Tryz.prog yv [.int .i64 k] h2 fun r' h3 => ∃ go, r' = .bool go ∧ (go = true → sat (pt cb (.cells #[.map (some mb)] 219 (0, 0)) :: pt mb (.map es clock) :: pt r o :: G (done ++ [k])) h3) ∧ (go = false → Out h3))
  (fin : ∀ ks h2, ks.Perm (m.map (·.1)) → sat (pt cb (.cells #[.map (some mb)] 219 (0, 0)) :: pt mb (.map es clock) :: G ks) h2 → Out h2) :
  CallsH Tryz.prog 262 [yv, .pointer (some ⟨cb, 0, none⟩)] h fun v h' => v = .tuple #[] ∧ Out h' := by
 apply F262_ok.ap
 unfold F262
 refine ⟨.map (some mb), by rw [cellAt_of start.get]; rfl, ?_⟩
 show DM (.map (some mb)) _
 rw [DM_map]
 have hn := hm.1.2.1
 refine range_sat (k := 2) (e := 4) (by kernel_rfl) start (start.mv 1).get fun r h1 H1 => ?_
 rw [DP_pointer]
 refine ⟨fun _ h2 => ∃ seen done c0, sat (pt r (.mapIter (some mb) clock seen c0) :: pt cb (.cells #[.map (some mb)] 219 (0, 0)) :: pt mb (.map es clock) :: G (done.map fun e : MapEntry => kI e.key)) h2 ∧ Walked es seen done ∧ clock ≤ c0,
  fun _ h2 => leftAt ⟨r, 0, none⟩ h2, ⟨#[], [], clock, H1, Walked.start es, Nat.le_refl _⟩, ?_⟩
 rintro _ h2 ⟨seen, done, c0, H2, hw, hc⟩
 have hmb := (H2.mv 2).get
 refine next_sat H2 hmb hm.1.1 hc ?_ ?_
 · intro h0;refine .inl ⟨rfl, rfl, fin (done.map fun e : MapEntry => kI e.key) h2 ?_ H2.drop⟩;rw [← hm.keysI];exact (hw.fin h0).map _
 · intro e he h3 H3;have hmb3 := (H3.mv 2).get;have hee := Walked.mem he;refine .inr ⟨_, _, rfl, ?_⟩;refine entry_sat H3 hmb3 hee hn ?_;refine ⟨kI e.key, e.val, by rw [← hm.intKey hee], ?_⟩;have hdl : (done.map fun e : MapEntry => kI e.key).length < m.length := by
    have h1 := hw.perm.length_eq;have h2 : 0 < (leftOf es seen).toList.length := List.length_pos_of_mem he;rw [List.length_append] at h1;rw [List.length_map, ← hm.size];simp only [Array.length_toList] at h1 h2;omega
   refine (round r (.mapIter (some mb) clock (seen.push e.born) clock) (done.map fun e : MapEntry => kI e.key) (kI e.key) h3 hdl ((H3.mv 2).mv 2)).mono ?_;rintro r' h4 ⟨go, rfl, hgo, hstop⟩;rw [DB_bool]
   cases go with
   | false => exact ⟨rfl, hstop rfl⟩
   | true =>
     rw [Bool.not_true, cond_false];have H4 := (hgo rfl).mv 2;refine ⟨⟨seen.push e.born, done ++ [e], clock, ?_, hw.step hn he, Nat.le_refl _⟩, ?_⟩
     · rw [List.map_append];exact H4
     · have a1 : leftAt ⟨r, 0, none⟩ h4 = (leftOf es (seen.push e.born)).size := by
        unfold leftAt;simp only [H4.get, (H4.mv 2).get]
       have a2 : leftAt ⟨r, 0, none⟩ h2 = (leftOf es seen).size := by
        unfold leftAt;simp only [H2.get, hmb]
       show leftAt ⟨r, 0, none⟩ h4 < leftAt ⟨r, 0, none⟩ h2;rw [a1, a2];exact Walked.less hn he
theorem F239_spec {m0 : Option Nat} {h : Heap} {F : List HProp} (H : sat F h) : CallsH Tryz.prog 239 [.map m0] h fun v h' => ∃ b, v = .func (.func 262) #[] #[.pointer (some ⟨b, 0, none⟩)] ∧ sat (pt b (.cells #[.map m0] 219 (0, 0)) :: F) h' := by
 apply F239_ok.ap
 unfold F239
 exact Al_sat H fun b h1 H1 => ⟨b, rfl, H1⟩
theorem F190B_spec {cb mb : Nat} {m : List (Int × Value)} {h : Heap} {F : List HProp} (H : sat (pt cb (.cells #[.map (some mb)] 219 (0, 0)) :: ownM (intKeys .i64) mb m :: F) h) (hmax : m.length < 1099511627776) :
  CallsH Tryz.prog 252 [.slice none 0 0, .func (.func 262) #[] #[.pointer (some ⟨cb, 0, none⟩)]] h fun v h' => ∃ (a : Option Addr) (c : Nat) (ks : List Int), ks.Perm (m.map (·.1)) ∧ v = .slice a ks.length c ∧ sat (ownS 2 1 a ks.length c (ks.map iv) :: ownM (intKeys .i64) mb m :: F) h' := by
 apply F252_ok.ap
 unfold F252
 refine Al_sat H fun b0 h1 H1 => ?_
 obtain ⟨es, clock, hm, H2⟩ := ownM_open (H1.mv 2)
 intro rec hrec hy
 refine CallF_fn ?_
 have H3 := (H2.push (.deferred (some []))).push (rec .ready none)
 rw [Array.size_push] at H3
 have Hs : sat (pt cb (.cells #[.map (some mb)] 219 (0, 0)) :: pt mb (.map es clock) :: pt (h1.size + 1) (rec .ready none) :: pt h1.size (.deferred (some [])) :: listI b0 [] :: F) ((h1.push (.deferred (some []))).push (rec .ready none)) := by
  have K := ownS_nil 2 1 (H3.mv 3);have K2 := K.mv 1;have K3 : sat ([pt b0 (.cells #[.slice none 0 0] 240 (0, 0)), ownS 2 1 none 0 0 []] ++ (pt (h1.size + 1) (rec .ready none) :: pt h1.size (.deferred (some [])) :: pt mb (.map es clock) :: pt cb (.cells #[.map (some mb)] 219 (0, 0)) :: F)) ((h1.push (.deferred (some []))).push (rec .ready none)) := K2;have K4 : sat (listI b0 [] :: (pt (h1.size + 1) (rec .ready none) :: pt h1.size (.deferred (some [])) :: pt mb (.map es clock) :: pt cb (.cells #[.map (some mb)] 219 (0, 0)) :: F)) ((h1.push (.deferred (some []))).push (rec .ready none)) := sat_exi.2 ⟨(none, 0, 0), K3.shut⟩;exact (((K4.mv 2).mv 2).mv 3).mv 4
 refine (F262_spec hm (fun done => pt (h1.size + 1) (rec .ready none) :: pt h1.size (.deferred (some [])) :: listI b0 done :: F)
  (fun h2 => ∃ ks : List Int, ks.Perm (m.map (·.1)) ∧ sat (pt (h1.size + 1) (rec .ready none) :: pt h1.size (.deferred (some [])) :: listI b0 ks :: pt mb (.map es clock) :: F) h2) Hs ?_ ?_).mono ?_
 · intro r o done k h4 hdl H4;refine CallV_yield ?_;have hL := (H4.mv 3).get;refine hy _ _ _ rfl hL ⟨k, rfl, hL, ?_⟩;have H5 := ((H4.mv 3).set (rec .busy none)).mv 5;obtain ⟨⟨la, ll, lc⟩, H6⟩ := sat_exi.1 H5;have H7 := H6.open;obtain ⟨hll, hllc, hlcm⟩ := ownS_len H7.drop;simp only [List.length_map, Nat.mul_one] at hll hllc hlcm;refine ⟨.slice la ll lc, by rw [cellAt_of H7.get]; rfl, ?_⟩;show DSl (.slice la ll lc) _;rw [DSl_slice];refine Al_sat H7 fun b1 h8 H8 => ?_;have hr : RdC h8 (some ⟨b1, 0, none⟩) [.int .i64 k] := by
    intro j v hv;rw [cell_of_pt H8.get];simpa using hv
   refine append1 u166 src166 inf2 (H8.mv 2) (srcOf_slice hr rfl) (by intro u hu; simp at hu; subst hu; rfl) (by omega) fun a' c' h9 _ H9 => ?_;rw [DSl_slice];simp only [addr_add0];refine StC_sat (H9.mv 2) Nat.zero_lt_one (nofz_zero 1 0 (by decide)) fun h10 H10 => ?_;have H11 := H10.mv 3;refine ⟨H11.get, true, rfl, fun _ => ?_, fun e => by cases e⟩;have H12 := ((((H11.set (rec .ready none)).mv 3).drop).mv 2).mv 2;have H13 : sat ([pt b0 (.cells #[.slice a' (ll + 1) c'] 240 (0, 0)), ownS 2 1 a' (ll + 1) c' ((done ++ [k]).map iv)] ++ (pt (h1.size + 1) (rec .ready none) :: pt cb (.cells #[.map (some mb)] 219 (0, 0)) :: pt mb (.map es clock) :: pt r o :: pt h1.size (.deferred (some [])) :: F)) (h10.setIfInBounds (h1.size + 1) (rec .ready none)) := by
    rw [List.map_append];exact H12
   have H14 : sat (listI b0 (done ++ [k]) :: (pt (h1.size + 1) (rec .ready none) :: pt cb (.cells #[.map (some mb)] 219 (0, 0)) :: pt mb (.map es clock) :: pt r o :: pt h1.size (.deferred (some [])) :: F)) (h10.setIfInBounds (h1.size + 1) (rec .ready none)) := sat_exi.2 ⟨(a', ll + 1, c'), H13.shut⟩;exact ((((H14.mv 5).mv 2).mv 5).mv 5).mv 5
 · intro ks h4 hp H4;exact ⟨ks, hp, (((H4.mv 1).mv 4).mv 4).mv 4 |> fun hh => (((H4.drop.mv 3).mv 3).mv 3)⟩
 · rintro v h4 ⟨_, ks, hp, H4⟩;refine ⟨.ready, none, H4.get, by decide, rfl, ?_⟩;have H5 := (H4.set (rec .exhausted none)).mv 2;obtain ⟨⟨la, ll, lc⟩, H6⟩ := sat_exi.1 H5;have H7 := H6.open;obtain ⟨hll, hllc, hlcm⟩ := ownS_len H7.drop;simp only [List.length_map, Nat.mul_one] at hll hllc hlcm;refine ⟨.slice la ll lc, by rw [cellAt_of H7.get]; rfl, ?_⟩;show DSl (.slice la ll lc) _;rw [DSl_slice];have H8 := H7.mv 3;subst hll;refine ⟨H8.get, la, lc, ks, hp, rfl, ?_⟩;have H9 := (H8.set (.deferred none)).drop.drop;exact (ownM_shut hm (((H9.mv 1).drop).mv 1)).mv 1
theorem F144B_spec {cb mb : Nat} {m : List (Int × Value)} {h : Heap} {F : List HProp} (H : sat (pt cb (.cells #[.map (some mb)] 219 (0, 0)) :: ownM (intKeys .i64) mb m :: F) h) (hmax : m.length < 1099511627776) :
  CallsH Tryz.prog 193 [.func (.func 262) #[] #[.pointer (some ⟨cb, 0, none⟩)]] h fun v h' => ∃ (a : Option Addr) (c : Nat), v = .slice a m.length c ∧ sat (ownS 2 1 a m.length c ((sortI (m.map (·.1))).map iv) :: ownM (intKeys .i64) mb m :: F) h' := by
 apply F193_ok.ap
 unfold F193
 have step : CallsH Tryz.prog 231 [.func (.func 262) #[] #[.pointer (some ⟨cb, 0, none⟩)]] h fun v h' => ∃ (a : Option Addr) (c : Nat) (ks : List Int), ks.Perm (m.map (·.1)) ∧ v = .slice a ks.length c ∧ sat (ownS 2 1 a ks.length c (ks.map iv) :: ownM (intKeys .i64) mb m :: F) h' := by
  apply F231_ok.ap;unfold F231;refine (F190B_spec H hmax).mono ?_;rintro v h1 ⟨a, c, ks, hp, rfl, H1⟩;rw [DSl_slice];exact ⟨a, c, ks, hp, rfl, H1⟩
 refine step.mono ?_
 rintro v h1 ⟨a, c, ks, hp, rfl, H1⟩
 rw [DSl_slice]
 have hkl : ks.length = m.length := by rw [hp.length_eq, List.length_map]
 refine (F232_spec H1 (by omega)).mono ?_
 rintro v h2 ⟨rfl, H2⟩
 refine ⟨rfl, a, c, by rw [hkl], ?_⟩
 rw [hkl] at H2
 have e : sortI ks = sortI (m.map (·.1)) := sortI_same hp
 rw [← e]
 exact H2
theorem F214_spec {mb : Nat} {m : List (Int × Value)} {h : Heap} {F : List HProp} (H : sat (ownM (intKeys .i64) mb m :: F) h) (hmax : m.length < 1099511627776) :
  CallsH Tryz.prog 214 [.map (some mb)] h fun v h' => ∃ (kb tb : Nat) (a : Option Addr) (c : Nat), v = .func (.func 240) #[] #[.pointer (some ⟨kb, 0, none⟩), .pointer (some ⟨tb, 0, none⟩)] ∧
   sat (RiseK kb tb mb a c 219 (sortI (m.map (·.1))) :: ownM (intKeys .i64) mb m :: F) h' := by
 apply F214_ok.ap
 unfold F214
 refine Al_sat H fun tb h1 H1 => ?_
 refine ⟨.map (some mb), by rw [cellAt_of H1.get]; rfl, ?_⟩
 show DM (.map (some mb)) _
 rw [DM_map]
 refine (F239_spec H1).mono ?_
 rintro v h2 ⟨cb, rfl, H2⟩
 refine ⟨_, rfl, ?_⟩
 refine (F144B_spec (cb := cb) (mb := mb) (m := m) (H2.ordT 3 [0, 2, 1]) hmax).mono ?_
 rintro v h3 ⟨a, c, rfl, H3⟩
 rw [DSl_slice]
 refine Al_sat H3 fun kb h4 H4 => ?_
 refine stV H4 fun h5 H5 => ?_
 refine ⟨kb, tb, a, c, rfl, ?_⟩
 have hl : (sortI (m.map (·.1))).length = m.length := by rw [(sortI_perm _).length_eq, List.length_map]
 unfold RiseK
 rw [hl]
 exact sat.shut (m := [_, _, _]) (H5.ordT 4 [0, 3, 1, 2])
end Go.Proofs.YtibdiikcigokjaaGreatDoor
