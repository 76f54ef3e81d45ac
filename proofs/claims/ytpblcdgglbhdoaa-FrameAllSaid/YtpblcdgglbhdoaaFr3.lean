/- What scanning computes, in the program: the iterator, its use, and the document's answers. -/
import Derived.Test.YtpblcdgglbhdoaaFr2
namespace Go.Proofs.Ytpblcdgglbhdoaa
open Go Go.RowKit
set_option linter.unusedVariables false
set_option linter.unusedSimpArgs false
open Crc (Run More)
open Frame (be4 val4 packN firstN refAt scanN reach be4_B8 val4_lt val4_take packN_length packN_B8)

theorem num64 {x0 x1 x2 x3 : Nat} (h0 : x0 < 256) (h1 : x1 < 256) (h2 : x2 < 256) (h3 : x3 < 256) :
    IntKind.wrap .u64 ((IntKind.wrap .u64 ((IntKind.wrap .u64 ((IntKind.wrap .u64 ((IntKind.wrap .u64 (x0 : Int)) * 16777216)) + (IntKind.wrap .u64 ((IntKind.wrap .u64 (x1 : Int)) * 65536)))) + (IntKind.wrap .u64 ((IntKind.wrap .u64 (x2 : Int)) * 256)))) + (IntKind.wrap .u64 (x3 : Int)))
      = ((x0 * 16777216 + x1 * 65536 + x2 * 256 + x3 : Nat) : Int) := by
  simp only [IntKind.wrap_u64]
  omega
theorem F23_spec {s : ByteArray} {p : Nat} {h : Heap} {F : List HProp} (hF : sat F h) (hp : p ≤ s.size) (hs : s.size ≤ 16777208) :
    CallsH Try.prog 23 [.string s, .int .i64 (p : Int)] h fun v h' => v = .tuple #[.string (ofN (refAt ((sb s).drop p)).1), .bool (refAt ((sb s).drop p)).2] ∧ sat F h' := by
  apply F23_ok
  unfold F23
  have hsl := sb_length s
  have h8 := sb_B8 s
  have w1 : IntKind.wrap .i64 ((s.size : Int) - (p : Int)) = ((s.size - p : Nat) : Int) := by rw [IntWalk.i64_in _ (by omega)]; omega
  have hbl : ((sb s).drop p).length = s.size - p := by rw [List.length_drop, hsl]
  rw [decide_eq_false (show ¬ ((p : Int) < 0) by omega), cond_false, w1]
  by_cases h1 : s.size - p < 8
  · rw [decide_eq_true (show (((s.size - p : Nat) : Int) < 8) by omega), cond_true]
    refine ⟨?_, hF⟩
    unfold refAt
    rw [if_pos (by omega)]
    rfl
  · rw [decide_eq_false (show ¬ (((s.size - p : Nat) : Int) < 8) by omega), cond_false]
    have a1 : IntKind.wrap .i64 ((p : Int) + 1) = ((p + 1 : Nat) : Int) := by rw [IntWalk.i64_in _ (by omega)]; omega
    have a2 : IntKind.wrap .i64 ((p : Int) + 2) = ((p + 2 : Nat) : Int) := by rw [IntWalk.i64_in _ (by omega)]; omega
    have a3 : IntKind.wrap .i64 ((p : Int) + 3) = ((p + 3 : Nat) : Int) := by rw [IntWalk.i64_in _ (by omega)]; omega
    have a8 : IntKind.wrap .i64 ((p : Int) + 8) = ((p + 8 : Nat) : Int) := by rw [IntWalk.i64_in _ (by omega)]; omega
    have get : ∀ j, j < 4 → ∃ x, (sb s)[p + j]? = some x ∧ ((sb s).drop p).getD j 0 = x ∧ x < 256 := fun j hj => by
      obtain ⟨x, hx⟩ : ∃ x, (sb s)[p + j]? = some x := ⟨_, List.getElem?_eq_getElem (by omega)⟩
      refine ⟨x, hx, ?_, h8 x (List.mem_of_getElem? hx)⟩
      rw [List.getD_eq_getElem?_getD, List.getElem?_drop, hx]
      rfl
    obtain ⟨x0, g0, d0, l0⟩ := get 0 (by decide)
    obtain ⟨x1, g1, d1, l1⟩ := get 1 (by decide)
    obtain ⟨x2, g2, d2, l2⟩ := get 2 (by decide)
    obtain ⟨x3, g3, d3, l3⟩ := get 3 (by decide)
    have hv : val4 ((sb s).drop p) = x0 * 16777216 + x1 * 65536 + x2 * 256 + x3 := by unfold val4; rw [d0, d1, d2, d3]
    rw [a1, a2, a3, a8]
    have hn := num64 l0 l1 l2 l3
    rw [← hv] at hn
    rw [bt_sb (i := p) g0, bt_sb (i := p + 1) g1, bt_sb (i := p + 2) g2, bt_sb (i := p + 3) g3]
    rw [hn]
    have w4 : IntKind.wrap .u64 (IntKind.wrap .i64 (((s.size - p : Nat) : Int) - 8)) = ((s.size - p - 8 : Nat) : Int) := by
      rw [IntWalk.i64_in _ (by omega), IntWalk.u64_in _ (by omega)]
      omega
    rw [w4]
    have hvlt := val4_lt (h8.drop p)
    refine ⟨by omega, by omega, by omega, by omega, by omega, by omega, by omega, by omega, ?_⟩
    by_cases h2 : val4 ((sb s).drop p) > s.size - p - 8
    · rw [decide_eq_true (show (((val4 ((sb s).drop p) : Nat) : Int) > ((s.size - p - 8 : Nat) : Int)) by omega), cond_true]
      refine ⟨?_, hF⟩
      unfold refAt
      rw [if_neg (by omega), if_pos (by omega)]
      rfl
    · rw [decide_eq_false (show ¬ (((val4 ((sb s).drop p) : Nat) : Int) > ((s.size - p - 8 : Nat) : Int)) by omega), cond_false]
      generalize hN : val4 ((sb s).drop p) = n at *
      have w5 : IntKind.wrap .i64 (((p + 8 : Nat) : Int) + IntKind.wrap .i64 (n : Int)) = ((p + 8 + n : Nat) : Int) := by
        rw [wrap64_nat (by omega), IntWalk.i64_in _ (by omega)]
        omega
      rw [w5]
      refine ⟨by omega, by omega, by omega, ?_⟩
      rw [Int.toNat_natCast, Int.toNat_natCast]
      have e1 : sb (s.extract (p + 8) (p + 8 + n)) = (((sb s).drop p).drop 8).take n := by
        rw [sb_extract, List.drop_drop]
        congr 1
        omega
      have hz : (s.extract (p + 8) (p + 8 + n)).size ≤ 16777208 := by
        rw [← sb_length, e1, List.length_take]
        omega
      refine (F21_spec hF hz).mono ?_
      rintro v h1 ⟨rfl, H1⟩
      refine ⟨_, _, rfl, ?_⟩
      rw [show ((0 : Int) == 0) = true from rfl, cond_true]
      refine ⟨by omega, by omega, by omega, ?_⟩
      rw [Int.toNat_natCast, Int.toNat_natCast]
      refine ⟨?_, H1⟩
      have e2 : sb (s.extract p (p + 8 + n)) = ((sb s).drop p).take (8 + n) := by
        rw [sb_extract]
        congr 1
        omega
      have e3 : s.extract (p + 8) (p + 8 + n) = ofN ((((sb s).drop p).drop 8).take n) := sb_inj (by rw [e1, sb_ofN (((h8.drop p).drop 8).take n)])
      have hr : refAt ((sb s).drop p) = ((((sb s).drop p).drop 8).take n, decide (n ≤ 16777208) && decide (packN ((((sb s).drop p).drop 8).take n) = ((sb s).drop p).take (8 + n))) := by
        unfold refAt
        rw [if_neg (by omega), hN, if_neg (by omega)]
      rw [hr, strEq_eq, e2, sb_ofN (packN_B8 (sb_B8 _)), e1, ← e3, decide_eq_true (show n ≤ 16777208 by omega), Bool.true_and]

theorem CallF_fn {P : Program} {f : FuncId} {first cap : Array Value} {args : List Value} {h : Heap} {Q : Value → Heap → Prop} (H : CallsH P f (first.toList ++ args ++ cap.toList) h Q) : CallF P (.func (.func f) first cap) args h Q := H
theorem CallV_yield {P : Program} {n : Nat} {first cap : Array Value} {args : List Value} {h : Heap} {Q : Value → Heap → Prop} (H : YieldH P n (first.toList ++ args) h Q) : CallV P (.func (.yield n) first cap) args h Q := H
/-- The iterator, made. -/
theorem F27_spec {x : List Nat} {a : Option Addr} {l c : Nat} {h : Heap} {F : List HProp} (hF : sat F h) (hR : RdC h a (x.map nv)) (hl : x.length = l) (hm : l ≤ 140737488355328) :
    CallsH Try.prog 27 [.slice a l c] h fun v h' => ∃ b a' c', v = .func (.func 31) #[] #[.pointer (some ⟨b, 0, none⟩)] ∧ sat (pt b (.cells #[.slice a' l c'] 26 (0, 0)) :: ownS 5 1 a' l c' (x.map nv) :: F) h' := by
  apply F27_ok
  unfold F27
  refine appB (xs := []) t26 s26 i5 (ownS_nil 5 1 hF) (srcB hR hl) (by omega) fun a' c' h1 _ H => ?_
  rw [DSl_slice]
  refine Al_sat H fun b h2 H2 => ?_
  simp only [addr_add0]
  refine StC_sat H2 (by decide) (nofz_zero 1 0 (by decide)) fun h3 H3 => ?_
  rw [Nat.zero_add] at H3
  exact ⟨b, a', c', rfl, H3⟩

theorem reach_snoc (l : List (List Nat)) (x : List Nat) : reach (l ++ [x]) = reach l + (8 + x.length) := by
  simp [reach, List.sum_append]

/-- The iterator, run: each frame is handed on, from left to right, until it is told to stop. -/
theorem F31_spec {yv : Value} {cb : Nat} {x : List Nat} {a : Option Addr} {l c : Nat} {h : Heap} (G : List (List Nat) → List HProp) (Out : Heap → Prop) (h8 : B8 x) (hl : x.length = l) (hm : l ≤ 1099511627776)
    (start : sat (pt cb (.cells #[.slice a l c] 26 (0, 0)) :: ownS 5 1 a l c (x.map nv) :: G []) h)
    (round : ∀ done body more h2 xa xc, scanN x = done ++ body :: more → reach done + 8 + body.length ≤ l →
      sat (ownS 5 1 xa body.length xc (body.map nv) :: pt cb (.cells #[.slice a l c] 26 (0, 0)) :: ownS 5 1 a l c (x.map nv) :: G done) h2 →
      CallV Try.prog yv [.int .i64 (reach done : Nat), .slice xa body.length xc] h2 fun r h3 => ∃ go, r = .bool go ∧ (go = true → sat (pt cb (.cells #[.slice a l c] 26 (0, 0)) :: ownS 5 1 a l c (x.map nv) :: G (done ++ [body])) h3) ∧ (go = false → Out h3))
    (fin : ∀ h2, sat (pt cb (.cells #[.slice a l c] 26 (0, 0)) :: ownS 5 1 a l c (x.map nv) :: G (scanN x)) h2 → Out h2) :
    CallsH Try.prog 31 [yv, .pointer (some ⟨cb, 0, none⟩)] h fun v h' => v = .tuple #[] ∧ Out h' := by
  apply F31_ok
  unfold F31
  refine ⟨fun st h1 => ∃ done, st = ((reach done : Nat) : Int) ∧ reach done ≤ l ∧ scanN x = done ++ scanN (x.drop (reach done)) ∧ sat (pt cb (.cells #[.slice a l c] 26 (0, 0)) :: ownS 5 1 a l c (x.map nv) :: G done) h1, fun st _ => ((l : Int) - st).toNat, ⟨[], rfl, Nat.zero_le _, rfl, start⟩, ?_⟩
  rintro st h1 ⟨done, rfl, hd, hsc, H⟩
  obtain ⟨_, hlc, hc⟩ := ownS_len H.drop
  have hcm : c ≤ 9223372036854775807 := hc
  refine ⟨.slice a l c, by rw [cellAt_of H.get]; rfl, ?_⟩
  show DSl (.slice a l c) _
  rw [DSl_slice]
  refine SlV_nat hd hlc (Nat.le_refl _) ?_
  have r1 : RdC h1 (subA a (reach done) c 1) ((x.drop (reach done)).map nv) := by
    have := (ownS_read H.drop).sub (reach done) (l - reach done) c (by omega)
    rw [← List.map_drop, ← List.map_take, List.take_of_length_le (by rw [List.length_drop]; omega)] at this
    exact this
  refine (F30_spec r1 (h8.drop _) (by rw [List.length_drop, hl]) (by omega) (by omega)).mono ?_
  rintro v h2 ⟨⟨sa, sl, sc, rfl, hb⟩, rfl⟩
  refine ⟨sa, sl, sc, _, rfl, ?_⟩
  cases hf : firstN (x.drop (reach done)) with
  | none =>
    simp only [Option.isSome_none, Bool.not_false, cond_true]
    refine ⟨trivial, fin _ ?_⟩
    have : scanN (x.drop (reach done)) = [] := by rw [Frame.scanN_eq, hf]
    rw [this, List.append_nil] at hsc
    rw [hsc]
    exact H
  | some body =>
    obtain ⟨hbl, hbr, hbc, hbm⟩ := hb body hf
    obtain ⟨_, hb2, hb3, _, _, hb8⟩ := Frame.firstN_some (h8.drop _) hf
    rw [List.length_drop, hl] at hb3
    simp only [Option.isSome_some, Bool.not_true, cond_false]
    refine appB (xs := []) t26 s26 i5 (ownS_nil 5 1 H) (srcB hbr hbl) (by omega) fun a' c' h3 _ H3 => ?_
    rw [DSl_slice]
    subst hbl
    have hsc2 : scanN (x.drop (reach done)) = body :: scanN (x.drop (reach done + (8 + body.length))) := by
      rw [Frame.scanN_eq, hf]
      simp only [List.drop_drop]
    rw [Nat.zero_add] at H3 ⊢
    refine (round done body _ h3 a' c' (by rw [hsc, hsc2]) (by omega) H3).mono ?_
    rintro r h4 ⟨go, rfl, hgo, hstop⟩
    rw [DB_bool]
    cases go with
    | false => exact ⟨trivial, hstop rfl⟩
    | true =>
      rw [Bool.not_true, cond_false]
      have w : IntKind.wrap .i64 (((reach done : Nat) : Int) + IntKind.wrap .i64 (8 + (body.length : Int))) = ((reach (done ++ [body]) : Nat) : Int) := by
        rw [reach_snoc, IntWalk.i64_in (8 + (body.length : Int)) (by omega), IntWalk.i64_in _ (by omega)]
        omega
      rw [w]
      refine ⟨⟨done ++ [body], rfl, by rw [reach_snoc]; omega, ?_, hgo rfl⟩, ?_⟩
      · rw [hsc, hsc2, reach_snoc, List.append_assoc]
        rfl
      · rw [reach_snoc]
        omega

/-- A frame's bytes behind a slice. -/
def Eb (x : List Nat) (v : Value) : HProp := fun r => ∃ a l c, v = .slice a l c ∧ ownS 5 1 a l c (x.map nv) r
def listP (b : Nat) (done : List (List Nat)) : HProp := exi fun q : Option Addr × Nat × Nat => Many [pt b (.cells #[.slice q.1 q.2.1 q.2.2] 43 (0, 0)), ownL Eb 26 q.1 q.2.1 q.2.2 done]
theorem Eb_get {x : List Nat} {v : Value} {F : List HProp} {h : Heap} (H : sat (Eb x v :: F) h) : ∃ a l c, v = .slice a l c ∧ RdC h a (x.map nv) ∧ x.length = l ∧ l ≤ c ∧ c ≤ maxLen := by
  obtain ⟨r, ⟨r1, r2, hd, e, ⟨a, l, c, hv, ho⟩, h2⟩, hs⟩ := H
  have H2 : sat (ownS 5 1 a l c (x.map nv) :: F) h := ⟨r, ⟨r1, r2, hd, e, ho, h2⟩, hs⟩
  obtain ⟨h3, h4, h5⟩ := ownS_len H2
  exact ⟨a, l, c, hv, ownS_read H2, by simpa using h3, h4, h5⟩
theorem scan_count (x : List Nat) (h8 : B8 x) : ∀ (n : Nat) (done : List (List Nat)), done.length = n → reach done ≤ x.length → 8 * n ≤ x.length := by
  intro n done hn hr
  have : ∀ l : List (List Nat), 8 * l.length ≤ reach l := by
    intro l
    induction l with
    | nil => simp [reach]
    | cons y l ih =>
      have e : reach (y :: l) = (8 + y.length) + reach l := rfl
      rw [e, List.length_cons]
      omega
  have := this done
  omega

theorem F24_spec {x : List Nat} {a : Option Addr} {l c : Nat} {h : Heap} {F : List HProp} (hF : sat F h) (hR : ∀ h', sat F h' → RdC h' a (x.map nv)) (h8 : B8 x) (hl : x.length = l) (hm : l ≤ 1099511627776) :
    CallsH Try.prog 24 [.slice a l c] h fun v h' => ∃ a' c', v = .tuple #[.slice a' (scanN x).length c', .int .i64 (reach (scanN x) : Nat)] ∧ sat (ownL Eb 26 a' (scanN x).length c' (scanN x) :: F) h' := by
  apply F24_ok
  unfold F24
  refine Al_sat hF fun b1 h1 H1 => Al_sat H1 fun b2 h2 H2 => ?_
  simp only [addr_add0]
  refine StC_sat H2 (by decide) (nofz_zero 1 0 (by decide)) fun h3 H3 => ?_
  refine (F27_spec H3 (hR _ H3.drop.drop) hl (by omega)).mono ?_
  rintro v h4 ⟨b3, a3, c3, rfl, H4⟩
  refine ⟨_, rfl, ?_⟩
  intro rec hrec hy
  refine CallF_fn ?_
  show CallsH Try.prog 31 [.func (.yield (h4.size + 1)) #[] #[], .pointer (some ⟨b3, 0, none⟩)] _ _
  have H5 := (H4.push (.deferred (some []))).push (rec .ready none)
  rw [Array.size_push] at H5
  refine (F31_spec (x := x) (a := a3) (l := l) (c := c3) (G := fun done => pt (h4.size + 1) (rec .ready none) :: pt h4.size (.deferred (some [])) :: pt b2 (.cells #[.int .i64 ((reach done : Nat) : Int)] 3 (0, 0)) :: listP b1 done :: F)
    (Out := fun h2 => sat (pt (h4.size + 1) (rec .ready none) :: pt h4.size (.deferred (some [])) :: pt b2 (.cells #[.int .i64 ((reach (scanN x) : Nat) : Int)] 3 (0, 0)) :: listP b1 (scanN x) :: F) h2) h8 hl hm ?_ ?_ ?_).mono ?_
  · -- the start: L, D, b3, own, b2, b1, F
    have K1 : sat (pt b1 (.cells #[.slice none 0 0] 43 (0, 0)) :: pt (h4.size + 1) (rec .ready none) :: pt h4.size (.deferred (some [])) :: pt b3 (.cells #[.slice a3 l c3] 26 (0, 0)) :: ownS 5 1 a3 l c3 (x.map nv) :: pt b2 (.cells #[.int .i64 0] 3 (0, 0)) :: F) _ := H5.mv 5
    have K2 := (ownL_nil Eb 26 K1).mv 1
    have K3 : sat (listP b1 [] :: pt (h4.size + 1) (rec .ready none) :: pt h4.size (.deferred (some [])) :: pt b3 (.cells #[.slice a3 l c3] 26 (0, 0)) :: ownS 5 1 a3 l c3 (x.map nv) :: pt b2 (.cells #[.int .i64 0] 3 (0, 0)) :: F) _ :=
      sat_exi.2 ⟨(none, 0, 0), sat.shut K2⟩
    exact ((((K3.mv 5).mv 3).mv 3).mv 5).mv 5
  · intro done body more h6 xa xc hsc hle H6
    refine CallV_yield ?_
    show YieldH Try.prog (h4.size + 1) [.int .i64 (reach done : Nat), .slice xa body.length xc] h6 _
    refine hy _ _ _ rfl (H6.mv 3).get ⟨_, _, _, _, rfl, (H6.mv 3).get, ?_⟩
    have H7 := ((H6.mv 3).set (rec .busy none)).mv 6
    obtain ⟨⟨la, ll, lc⟩, H8⟩ := sat_exi.1 H7
    have H9 := H8.open
    obtain ⟨hll, hllc, hlcm⟩ := ownL_len H9.drop
    simp only at hll hllc hlcm
    refine ⟨.slice la ll lc, by rw [cellAt_of H9.get]; rfl, ?_⟩
    show DSl (.slice la ll lc) _
    rw [DSl_slice]
    refine Al_sat H9 fun b4 h10 H10 => ?_
    have hr4 : RdC h10 (some ⟨b4, 0, none⟩) [.slice xa body.length xc] := by
      intro j v hv
      rw [cell_of_pt H10.get]
      exact (by simpa using hv : [(.slice xa body.length xc : Value)][j]? = some v) |> fun hh => by simpa using hh
    have K : sat (ownS 5 1 xa body.length xc (body.map nv) :: pt b4 (.cells #[.slice xa body.length xc] 26 (0, 0)) :: pt b1 (.cells #[.slice la ll lc] 43 (0, 0)) :: ownL Eb 26 la ll lc done :: pt (h4.size + 1) (rec .busy none) :: pt b3 (.cells #[.slice a3 l c3] 26 (0, 0)) :: ownS 5 1 a3 l c3 (x.map nv) :: pt h4.size (.deferred (some [])) :: pt b2 (.cells #[.int .i64 ((reach done : Nat) : Int)] 3 (0, 0)) :: F) h10 := H10.mv 4
    have K2 := (K.imp (B := Eb body (.slice xa body.length xc)) fun r hr => ⟨xa, body.length, xc, rfl, hr⟩).mv 3
    have hcnt := scan_count x h8 done.length done rfl (by omega)
    refine pushL t43 s43 i26 (by omega) K2 rfl hr4 fun a' c' h11 H11 => ?_
    rw [DSl_slice]
    refine StC_sat (H11.mv 2) Nat.zero_lt_one (nofz_zero 1 0 (by decide)) fun h12 H12 => ?_
    refine StC_sat (H12.mv 7) Nat.zero_lt_one (nofz_zero 1 0 (by decide)) fun h13 H13 => ?_
    have H14 := H13.mv 4
    refine ⟨H14.get, true, rfl, fun _ => ?_, fun e => by cases e⟩
    have H15 := (((H14.set (rec .ready none)).mv 4).drop.mv 3).mv 3
    have w : IntKind.wrap .i64 (IntKind.wrap .i64 (((reach done : Nat) : Int) + 8) + (body.length : Int)) = ((reach (done ++ [body]) : Nat) : Int) := by
      rw [reach_snoc, IntWalk.i64_in (((reach done : Nat) : Int) + 8) (by omega), IntWalk.i64_in _ (by omega)]
      omega
    rw [w] at H15
    have H15b : sat ([pt b1 (.cells #[.slice a' (ll + 1) c'] 43 (0, 0)), ownL Eb 26 a' (ll + 1) c' (done ++ [body])] ++ (pt (h4.size + 1) (rec .ready none) :: pt b2 (.cells #[.int .i64 ((reach (done ++ [body]) : Nat) : Int)] 3 (0, 0)) :: pt b3 (.cells #[.slice a3 l c3] 26 (0, 0)) :: ownS 5 1 a3 l c3 (x.map nv) :: pt h4.size (.deferred (some [])) :: F)) _ := H15
    have H16 : sat (listP b1 (done ++ [body]) :: (pt (h4.size + 1) (rec .ready none) :: pt b2 (.cells #[.int .i64 ((reach (done ++ [body]) : Nat) : Int)] 3 (0, 0)) :: pt b3 (.cells #[.slice a3 l c3] 26 (0, 0)) :: ownS 5 1 a3 l c3 (x.map nv) :: pt h4.size (.deferred (some [])) :: F)) _ := sat_exi.2 ⟨(a', ll + 1, c'), H15b.shut⟩
    exact ((((H16.mv 2).mv 5).mv 3).mv 5).mv 5
  · intro h6 H6
    exact H6.drop.drop
  · rintro v h6 ⟨_, H6⟩
    refine ⟨.ready, none, H6.get, by decide, rfl, ?_⟩
    have H7 := ((H6.set (rec .exhausted none)).mv 3)
    obtain ⟨⟨la, ll, lc⟩, H8⟩ := sat_exi.1 H7
    have H9 := H8.open
    obtain ⟨hll, hllc, hlcm⟩ := ownL_len H9.drop
    simp only at hll hllc hlcm
    refine ⟨.slice la ll lc, by rw [cellAt_of H9.get]; rfl, ?_⟩
    show DSl (.slice la ll lc) _
    rw [DSl_slice]
    refine ⟨.int .i64 ((reach (scanN x) : Nat) : Int), by rw [cellAt_of (H9.mv 4).get]; rfl, ?_⟩
    show DI .i64 (.int .i64 ((reach (scanN x) : Nat) : Int)) _
    rw [DI_int]
    have H10 := H9.mv 3
    refine ⟨H10.get, la, lc, ?_, ?_⟩
    · subst hll
      rfl
    · subst hll
      have H11 := H10.set (.deferred none)
      exact ((H11.drop.drop).mv 1).drop.bk 0 |> fun hh => (hh.mv 1).drop

end Go.Proofs.Ytpblcdgglbhdoaa
