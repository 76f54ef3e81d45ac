/- The iterator over frames in the program of seat r2; the records at the beginning of bytes. The log as plain data; its last segment, names, Sync. The log: a new segment, a record more. The log: Append, what is told of it, the search. The log: Read. The log: Read, the walk. The log in a file system with power and room: what it keeps (plain). The log in a file system with power and room: records are put, and read. The log in a file system with power and room: what is read. A log in a new directory; the chapter's example; no log. -/
import Derived.Test.YticjjdhaikbdaaaSgPlA
import Derived.Test.YticjjdhaikbdaaaSgTe

namespace Go.Proofs.Yticjjdhaikbdaaa
open Go Go.RowKit
set_option linter.unusedVariables false
set_option linter.unusedSimpArgs false
open Crc (Run More)
open Frame (be4 val4 packN firstN refAt scanN reach be4_B8 val4_lt val4_take packN_length packN_B8)

theorem u74 : Try.prog.underlying 74 = some (.slice 31) := by kernel_rfl
theorem src74 : srcTy Try.prog 74 = true := by kernel_rfl
theorem inf31 : infoOk Try.prog 31 24 = true := by kernel_rfl
theorem CallV_yieldN {P : Program} {n : Nat} {first cap : Array Value} {args : List Value} {h : Heap} {Q : Value → Heap → Prop} (H : YieldH P n (first.toList ++ args) h Q) : CallV P (.func (.yield n) first cap) args h Q := H
/-- The iterator, made. -/
theorem F132_spec {x : List Nat} {a : Option Addr} {l c : Nat} {h : Heap} {F : List HProp} (hF : sat F h) (hR : RdC h a (x.map nv)) (hl : x.length = l) (hm : l ≤ 140737488355328) :
    CallsH Try.prog 132 [.slice a l c] h fun v h' => ∃ b a' c', v = .func (.func 144) #[] #[.pointer (some ⟨b, 0, none⟩)] ∧ sat (pt b (.cells #[.slice a' l c'] 31 (0, 0)) :: ownS 5 1 a' l c' (x.map nv) :: F) h' := by
  apply F132_ok
  unfold F132
  refine appB (xs := []) u31 src31 inf5 (ownS_nil 5 1 hF) (srcB hR hl) (by omega) fun a' c' h1 _ H => ?_
  rw [DSl_slice]
  refine Al_sat H fun b h2 H2 => ?_
  simp only [addr_add0]
  refine StC_sat H2 (by decide) (nofz_zero 1 0 (by decide)) fun h3 H3 => ?_
  rw [Nat.zero_add] at H3
  exact ⟨b, a', c', rfl, H3⟩
theorem reach_snoc (l : List (List Nat)) (x : List Nat) : reach (l ++ [x]) = reach l + (8 + x.length) := by
  simp [reach, List.sum_append]
/-- The iterator, run: each frame is handed on, from left to right, until it is told to stop. -/
theorem F144_spec {yv : Value} {cb : Nat} {x : List Nat} {a : Option Addr} {l c : Nat} {h : Heap} (G : List (List Nat) → List HProp) (Out : Heap → Prop) (h8 : B8 x) (hl : x.length = l) (hm : l ≤ 1099511627776)
    (start : sat (pt cb (.cells #[.slice a l c] 31 (0, 0)) :: ownS 5 1 a l c (x.map nv) :: G []) h)
    (round : ∀ done body more h2 xa xc, scanN x = done ++ body :: more → reach done + 8 + body.length ≤ l →
      sat (ownS 5 1 xa body.length xc (body.map nv) :: pt cb (.cells #[.slice a l c] 31 (0, 0)) :: ownS 5 1 a l c (x.map nv) :: G done) h2 →
      CallV Try.prog yv [.int .i64 (reach done : Nat), .slice xa body.length xc] h2 fun r h3 => ∃ go, r = .bool go ∧ (go = true → sat (pt cb (.cells #[.slice a l c] 31 (0, 0)) :: ownS 5 1 a l c (x.map nv) :: G (done ++ [body])) h3) ∧ (go = false → Out h3))
    (fin : ∀ h2, sat (pt cb (.cells #[.slice a l c] 31 (0, 0)) :: ownS 5 1 a l c (x.map nv) :: G (scanN x)) h2 → Out h2) :
    CallsH Try.prog 144 [yv, .pointer (some ⟨cb, 0, none⟩)] h fun v h' => v = .tuple #[] ∧ Out h' := by
  apply F144_ok
  unfold F144
  refine ⟨fun st h1 => ∃ done, st = ((reach done : Nat) : Int) ∧ reach done ≤ l ∧ scanN x = done ++ scanN (x.drop (reach done)) ∧ sat (pt cb (.cells #[.slice a l c] 31 (0, 0)) :: ownS 5 1 a l c (x.map nv) :: G done) h1, fun st _ => ((l : Int) - st).toNat, ⟨[], rfl, Nat.zero_le _, rfl, start⟩, ?_⟩
  rintro st h1 ⟨done, rfl, hd, hsc, H⟩
  obtain ⟨_, hlc, hc⟩ := ownS_len H.drop
  have hcm : c ≤ 9223372036854775807 := hc
  refine ⟨.slice a l c, by rw [cellAt_of H.get]; rfl, ?_⟩
  show DSl (.slice a l c) _
  rw [DSl_slice]
  refine SlV_nat hd hlc (Nat.le_refl _) ?_
  have r1 : RdC h1 (subA a (reach done) c 1) ((x.drop (reach done)).map nv) := by
    have := (ownS_read H.drop).sub (reach done) (l - reach done) c (by omega)
    rw [← List.map_drop, ← List.map_take, List.take_of_length_le (by rw [List.length_drop]; omega)] at this
    exact this
  refine (F122_spec r1 (h8.drop _) (by rw [List.length_drop, hl]) (by omega) (by omega)).mono ?_
  rintro v h2 ⟨⟨sa, sl, sc, rfl, hb⟩, rfl⟩
  refine ⟨sa, sl, sc, _, rfl, ?_⟩
  cases hf : firstN (x.drop (reach done)) with
  | none =>
    simp only [Option.isSome_none, Bool.not_false, cond_true]
    refine ⟨trivial, fin _ ?_⟩
    have : scanN (x.drop (reach done)) = [] := by rw [Frame.scanN_eq, hf]
    rw [this, List.append_nil] at hsc
    rw [hsc]
    exact H
  | some body =>
    obtain ⟨hbl, hbr, hbc, hbm⟩ := hb body hf
    obtain ⟨_, hb2, hb3, _, _, hb8⟩ := Frame.firstN_some (h8.drop _) hf
    rw [List.length_drop, hl] at hb3
    simp only [Option.isSome_some, Bool.not_true, cond_false]
    refine appB (xs := []) u31 src31 inf5 (ownS_nil 5 1 H) (srcB hbr hbl) (by omega) fun a' c' h3 _ H3 => ?_
    rw [DSl_slice]
    subst hbl
    have hsc2 : scanN (x.drop (reach done)) = body :: scanN (x.drop (reach done + (8 + body.length))) := by
      rw [Frame.scanN_eq, hf]
      simp only [List.drop_drop]
    rw [Nat.zero_add] at H3 ⊢
    refine (round done body _ h3 a' c' (by rw [hsc, hsc2]) (by omega) H3).mono ?_
    rintro r h4 ⟨go, rfl, hgo, hstop⟩
    rw [DB_bool]
    cases go with
    | false => exact ⟨trivial, hstop rfl⟩
    | true =>
      rw [Bool.not_true, cond_false]
      have w : IntKind.wrap .i64 (((reach done : Nat) : Int) + IntKind.wrap .i64 (8 + (body.length : Int))) = ((reach (done ++ [body]) : Nat) : Int) := by
        rw [reach_snoc, IntWalk.i64_in (8 + (body.length : Int)) (by omega), IntWalk.i64_in _ (by omega)]
        omega
      rw [w]
      refine ⟨⟨done ++ [body], rfl, by rw [reach_snoc]; omega, ?_, hgo rfl⟩, ?_⟩
      · rw [hsc, hsc2, reach_snoc, List.append_assoc]
        rfl
      · rw [reach_snoc]
        omega

/-- Bytes behind a slice, owned in whatever way. -/
def EbO (x : List Nat) (v : Value) : HProp := fun r => ∃ (a : Option Addr) (l c : Nat), v = .slice a l c ∧ x.length = l ∧ ∀ h, sub r h → RdC h a (x.map nv)
theorem sub_left {r s : PHeap} {h : Heap} (H : sub (union r s) h) : sub r h := fun b x hx => H b x (union_left hx)
theorem EbO_get {x : List Nat} {v : Value} {F : List HProp} {h : Heap} (H : sat (EbO x v :: F) h) : ∃ a l c, v = .slice a l c ∧ RdC h a (x.map nv) ∧ x.length = l := by
  obtain ⟨r, ⟨r1, r2, hd, rfl, ⟨a, l, c, hv, hl, ho⟩, h2⟩, hs⟩ := H
  exact ⟨a, l, c, hv, ho h (sub_left hs), hl⟩
/-- The beginning of owned bytes, cut at its end. -/
theorem EbO_own (m c' : Nat) {x : List Nat} {a : Option Addr} {l c : Nat} {F : List HProp} {h : Heap} (H : sat (ownS 5 1 a l c (x.map nv) :: F) h) (hx : x.length = l) : sat (EbO x (.slice (subA a 0 m 1) l c') :: F) h := by
  refine H.imp fun r hr => ⟨_, l, c', rfl, hx, fun h2 hs => ?_⟩
  have K : sat [ownS 5 1 a l c (x.map nv)] h2 := ⟨r, by
    refine ⟨r, fun _ => none, ?_, ?_, hr, fun _ => rfl⟩
    · intro b y z _ hz
      cases hz
    funext b
    unfold union
    cases r b <;> rfl, hs⟩
  have e : subA a 0 m 1 = a := by
    unfold subA
    split
    · rfl
    · cases a with
      | none => rfl
      | some a => simp
  rw [e]
  exact ownS_read K
def RdBB (h : Heap) (a : Option Addr) (xs : List (List Nat)) : Prop :=
  ∀ i x, xs[i]? = some x → ∃ b a' l' c', a = some b ∧ cellAt h (b.add i) = some (.slice a' l' c') ∧ RdC h a' (x.map nv) ∧ x.length = l'
theorem rdBB_of {h : Heap} {F : List HProp} {e : TypeId} {a : Option Addr} {l c : Nat} {xs : List (List Nat)} (H : sat (ownL EbO e a l c xs :: F) h) : RdBB h a xs := by
  intro i x hx
  obtain ⟨v, b, hb, hc, F', H2⟩ := ownL_get H hx
  obtain ⟨a', l', c', rfl, hr, hl⟩ := EbO_get H2
  exact ⟨b, a', l', c', hb, hc, hr, hl⟩
theorem idxBB {h : Heap} {a : Option Addr} {l i : Nat} {xs : List (List Nat)} {x : List Nat} {K : Addr → Prop} (H : RdBB h a xs) (hl : xs.length = l) (hi : xs[i]? = some x)
    (hK : ∀ b a' l' c', cellAt h b = some (.slice a' l' c') → RdC h a' (x.map nv) → x.length = l' → K b) : IdxA a l (i : Int) 1 K := by
  obtain ⟨b, a', l', c', hb, hc, hr, hx⟩ := H i x hi
  have := (List.getElem?_eq_some_iff.1 hi).1
  refine ⟨b, hb, by omega, by omega, ?_⟩
  rw [Int.toNat_natCast, Nat.mul_one]
  exact hK _ a' l' c' hc hr hx
def listP (b : Nat) (done : List (List Nat)) : HProp := exi fun q : Option Addr × Nat × Nat => Many [pt b (.cells #[.slice q.1 q.2.1 q.2.2] 74 (0, 0)), ownL EbO 31 q.1 q.2.1 q.2.2 done]
theorem scan_count (x : List Nat) (h8 : B8 x) : ∀ (n : Nat) (done : List (List Nat)), done.length = n → reach done ≤ x.length → 8 * n ≤ x.length := by
  intro n done hn hr
  have : ∀ l : List (List Nat), 8 * l.length ≤ reach l := by
    intro l
    induction l with
    | nil => simp [reach]
    | cons y l ih =>
      have e : reach (y :: l) = (8 + y.length) + reach l := rfl
      rw [e, List.length_cons]
      omega
  have := this done
  omega
/-- The records with which bytes begin. -/
def goodN (x : List Nat) : List (List Nat) := (scanN x).takeWhile fun y => decide (y.length ≤ 1024)
theorem takeWhile_all {p : List Nat → Bool} : ∀ {l : List (List Nat)}, (∀ y ∈ l, p y = true) → l.takeWhile p = l
  | [], _ => rfl
  | y :: l, h => by rw [List.takeWhile_cons, if_pos (h y (by simp)), takeWhile_all fun z hz => h z (by simp [hz])]
theorem goodN_all {x : List Nat} (h : ∀ y ∈ scanN x, y.length ≤ 1024) : goodN x = scanN x := takeWhile_all fun y hy => decide_eq_true (h y hy)
theorem takeWhile_stop {p : List Nat → Bool} {l done more : List (List Nat)} {b : List Nat} (h : l = done ++ b :: more) (hd : ∀ y ∈ done, p y = true) (hb : p b = false) : l.takeWhile p = done := by
  subst h
  induction done with
  | nil => simp [hb]
  | cons y done ih =>
    have := hd y (by simp)
    simp only [List.cons_append, List.takeWhile_cons, this, if_true]
    rw [ih fun z hz => hd z (by simp [hz])]

theorem F106_spec {x : List Nat} {a : Option Addr} {l c : Nat} {h : Heap} {F : List HProp} (hF : sat F h) (hR : ∀ h', sat F h' → RdC h' a (x.map nv)) (h8 : B8 x) (hl : x.length = l) (hm : l ≤ 1099511627776) :
    CallsH Try.prog 106 [.slice a l c] h fun v h' => ∃ a' c', v = .tuple #[.slice a' (goodN x).length c', .int .i64 (reach (goodN x) : Nat)] ∧ sat (ownL EbO 31 a' (goodN x).length c' (goodN x) :: F) h' := by
  apply F106b_ok
  unfold F106b
  refine Al_sat hF fun b1 h1 H1 => Al_sat H1 fun b2 h2 H2 => ?_
  simp only [addr_add0]
  refine StC_sat H2 (by decide) (nofz_zero 1 0 (by decide)) fun h3 H3 => ?_
  refine (F132_spec H3 (hR _ H3.drop.drop) hl (by omega)).mono ?_
  rintro v h4 ⟨b3, a3, c3, rfl, H4⟩
  refine ⟨_, rfl, ?_⟩
  intro rec hrec hy
  refine CallF_fn ?_
  show CallsH Try.prog 144 [.func (.yield (h4.size + 1)) #[] #[], .pointer (some ⟨b3, 0, none⟩)] _ _
  have H5 := (H4.push (.deferred (some []))).push (rec .ready none)
  rw [Array.size_push] at H5
  refine (F144_spec (x := x) (a := a3) (l := l) (c := c3) (G := fun done => pt (h4.size + 1) (rec .ready none) :: pt h4.size (.deferred (some [])) :: pt b2 (.cells #[.int .i64 ((reach done : Nat) : Int)] 3 (0, 0)) :: listP b1 done :: pur (∀ y ∈ done, decide (y.length ≤ 1024) = true) :: F)
    (Out := fun h2 => ∃ st pend, ((st = .ready ∧ pend = none) ∨ (st = .done ∧ pend = some (.exit 0))) ∧ sat (pt (h4.size + 1) (rec st pend) :: pt h4.size (.deferred (some [])) :: pt b2 (.cells #[.int .i64 ((reach (goodN x) : Nat) : Int)] 3 (0, 0)) :: listP b1 (goodN x) :: F) h2) h8 hl hm ?_ ?_ ?_).mono ?_
  · -- the start: L, D, b3, own, b2, b1, F
    have K1 : sat (pt b1 (.cells #[.slice none 0 0] 74 (0, 0)) :: pt (h4.size + 1) (rec .ready none) :: pt h4.size (.deferred (some [])) :: pt b3 (.cells #[.slice a3 l c3] 31 (0, 0)) :: ownS 5 1 a3 l c3 (x.map nv) :: pt b2 (.cells #[.int .i64 0] 3 (0, 0)) :: F) _ := H5.mv 5
    have K2 := (ownL_nil EbO 31 K1).mv 1
    have K3 : sat (listP b1 [] :: pt (h4.size + 1) (rec .ready none) :: pt h4.size (.deferred (some [])) :: pt b3 (.cells #[.slice a3 l c3] 31 (0, 0)) :: ownS 5 1 a3 l c3 (x.map nv) :: pt b2 (.cells #[.int .i64 0] 3 (0, 0)) :: F) _ :=
      sat_exi.2 ⟨(none, 0, 0), sat.shut K2⟩
    have K4 : sat (pur (∀ y ∈ ([] : List (List Nat)), decide (y.length ≤ 1024) = true) :: _) _ := sat_pur.2 ⟨by simp, K3⟩
    exact K4.ordT 7 [4, 5, 2, 3, 6, 1, 0]
  · intro done body more h6 xa xc hsc hle H6
    refine CallV_yieldN ?_
    show YieldH Try.prog (h4.size + 1) [.int .i64 (reach done : Nat), .slice xa body.length xc] h6 _
    obtain ⟨hall, H6⟩ := sat_pur.1 (H6.mv 7)
    -- own body, b3, own x, L, D, b2, listP, F
    refine hy _ _ _ rfl (H6.mv 3).get ⟨_, _, _, _, rfl, (H6.mv 3).get, ?_⟩
    have H7 := ((H6.mv 3).set (rec .busy none))
    -- L, own body, b3, own x, D, b2, listP, F
    by_cases hbig : body.length > 1024
    · rw [decide_eq_true (show ((body.length : Int) > 1024) by omega), cond_true]
      refine ⟨H7.get, false, rfl, (fun e => by cases e), fun _ => ⟨.done, _, .inr ⟨rfl, rfl⟩, ?_⟩⟩
      have eg : goodN x = done := takeWhile_stop hsc hall (by rw [decide_eq_false (by omega)])
      rw [eg]
      exact (H7.set (rec .done (some (.exit 0)))).ordT 7 [0, 4, 5, 6]
    · rw [decide_eq_false (show ¬ ((body.length : Int) > 1024) by omega), cond_false]
      obtain ⟨⟨la, ll, lc⟩, H8⟩ := sat_exi.1 (H7.mv 6)
      have H9 := H8.open
      obtain ⟨hll, hllc, hlcm⟩ := ownL_len H9.drop
      simp only at hll hllc hlcm
      refine LdV (v := .slice la ll lc) H9.get rfl ?_
      rw [DSl_slice]
      refine SlV_nat (lo := 0) (hi := body.length) (mx := body.length) (Nat.zero_le _) (Nat.le_refl _) (ownS_len (H9.mv 3)).2.1 ?_
      rw [Nat.sub_zero]
      refine Al_sat H9 fun b4 h10 H10 => ?_
      refine ⟨LdV (v := .slice la ll lc) (H10.mv 1).get rfl (by rw [DSl_slice]; rfl), ?_⟩
      have hr4 : RdC h10 (some ⟨b4, 0, none⟩) [.slice (subA xa 0 body.length 1) body.length body.length] := RdCf H10 rfl
      -- b4, b1, ownL, L, own body, b3, own x, D, b2, F
      have K2 := (EbO_own body.length body.length (H10.mv 4) rfl).ordT 9 [3, 0, 1, 2, 4, 5, 6, 7, 8]
      have hcnt := scan_count x h8 done.length done rfl (by omega)
      refine pushL u74 src74 inf31 (by omega) K2 rfl hr4 fun a' c' h11 H11 => ?_
      rw [DSl_slice]
      refine stV (H11.mv 2) fun h12 H12 => ?_
      refine stV (H12.mv 7) fun h13 H13 => ?_
      have H14 := H13.mv 4
      refine ⟨H14.get, true, rfl, fun _ => ?_, fun e => by cases e⟩
      have H15 := H14.set (rec .ready none)
      have w : IntKind.wrap .i64 (IntKind.wrap .i64 (((reach done : Nat) : Int) + 8) + (body.length : Int)) = ((reach (done ++ [body]) : Nat) : Int) := by
        rw [reach_snoc, IntWalk.i64_in (((reach done : Nat) : Int) + 8) (by omega), IntWalk.i64_in _ (by omega)]
        omega
      rw [w] at H15
      have H16 := H15.ordT 8 [2, 3, 5, 6, 0, 7, 1]
      have H17 : sat (listP b1 (done ++ [body]) :: pt b3 (.cells #[.slice a3 l c3] 31 (0, 0)) :: ownS 5 1 a3 l c3 (x.map nv) :: pt (h4.size + 1) (rec .ready none) :: pt h4.size (.deferred (some [])) :: pt b2 (.cells #[.int .i64 ((reach (done ++ [body]) : Nat) : Int)] 3 (0, 0)) :: F) _ := sat_exi.2 ⟨(a', ll + 1, c'), sat.shut (m := [pt b1 (.cells #[.slice a' (ll + 1) c'] 74 (0, 0)), ownL EbO 31 a' (ll + 1) c' (done ++ [body])]) H16⟩
      have hall2 : ∀ y ∈ done ++ [body], decide (y.length ≤ 1024) = true := by
        intro y hy
        rcases List.mem_append.1 hy with hy | hy
        · exact hall y hy
        · rw [List.mem_singleton] at hy
          subst hy
          exact decide_eq_true (by omega)
      exact (sat_pur.2 ⟨hall2, H17⟩).ordT 7 [2, 3, 4, 5, 6, 1, 0]
  · intro h6 H6
    obtain ⟨hall, H7⟩ := sat_pur.1 (H6.mv 6)
    have eg : goodN x = scanN x := takeWhile_all hall
    rw [eg]
    exact ⟨.ready, none, .inl ⟨rfl, rfl⟩, H7.rest 2⟩
  · rintro v h6 ⟨_, st, pend, hst, H6⟩
    have H7 := H6.set (rec .exhausted pend)
    have fin : Ld (h6.setIfInBounds (h4.size + 1) (rec .exhausted pend)) ⟨b1, 0, none⟩ fun v2 => DSl v2 fun x4a x4l x4c =>
        Ld (h6.setIfInBounds (h4.size + 1) (rec .exhausted pend)) ⟨b2, 0, none⟩ fun v3 => DI .i64 v3 fun x5 =>
        (h6.setIfInBounds (h4.size + 1) (rec .exhausted pend))[h4.size]? = some (.deferred (some [])) ∧
        ∃ a' c', Value.tuple #[.slice x4a x4l x4c, .int .i64 x5] = .tuple #[.slice a' (goodN x).length c', .int .i64 (reach (goodN x) : Nat)] ∧
          sat (ownL EbO 31 a' (goodN x).length c' (goodN x) :: F) ((h6.setIfInBounds (h4.size + 1) (rec .exhausted pend)).setIfInBounds h4.size (.deferred none)) := by
      obtain ⟨⟨la, ll, lc⟩, H8⟩ := sat_exi.1 (H7.mv 3)
      have H9 := H8.open
      obtain ⟨hll, hllc, hlcm⟩ := ownL_len H9.drop
      simp only at hll hllc hlcm
      -- b1, ownL, L, D, b2, F
      refine LdV (v := .slice la ll lc) H9.get rfl ?_
      rw [DSl_slice]
      refine LdV (v := .int .i64 ((reach (goodN x) : Nat) : Int)) (H9.mv 4).get rfl ?_
      rw [DI_int]
      have H10 := H9.mv 3
      refine ⟨H10.get, la, lc, by rw [hll], ?_⟩
      rw [hll]
      exact (H10.set (.deferred none)).ordT 5 [2]
    refine ⟨st, pend, H6.get, ?_, ?_, fun _ => fin, fun _ => fin⟩
    · rcases hst with ⟨rfl, _⟩ | ⟨rfl, _⟩ <;> decide
    · rcases hst with ⟨_, rfl⟩ | ⟨_, rfl⟩
      · exact .inl rfl
      · exact .inr rfl

end Go.Proofs.Yticjjdhaikbdaaa

namespace Go.Proofs.Yticjjdhaikbdaaa
open Go Go.RowKit
set_option linter.unusedVariables false
set_option linter.unusedSimpArgs false
open Frame (packN)

theorem ofN_size {x : List Nat} (h8 : B8 x) : (ofN x).size = x.length := by rw [← sb_length, sb_ofN h8]
namespace AF
/-- A segment's name. -/
def sgN (n : Nat) : ByteArray := ⟨#[115, 46]⟩ ++ ofN (Hex.digs 16 n)
structure Part where
  base : Nat
  count : Nat
  size : Nat
structure Log where
  dir : ByteArray
  size : Nat
  parts : List Part
  fin : Nat
  dur : Nat
def Log.sync (L : Log) (A : FS) : FS × Nat := match L.parts.getLast? with
  | none => (A, 0)
  | some p => A.sync L.dir (sgN p.base)
def Log.synced (L : Log) (e : Nat) : Log := if e = 0 then { L with dur := L.fin } else L
/-- A new segment. -/
def Log.roll (L : Log) (A : FS) : FS × Log × Nat :=
  let r1 := L.sync A
  if r1.2 ≠ 0 then (r1.1, L, r1.2) else
  let r2 := r1.1.create L.dir (sgN L.fin)
  if r2.2 ≠ 0 then (r2.1, { L with dur := L.fin }, r2.2) else
  let r3 := r2.1.syncDir L.dir
  if r3.2 ≠ 0 then (r3.1, { L with dur := L.fin }, r3.2) else
  (r3.1, { L with dur := L.fin, parts := L.parts ++ [⟨L.fin, 0, 0⟩] }, 0)
/-- A record behind the last segment. -/
def Log.put (L : Log) (A : FS) (b : List Nat) : FS × Log × Except Nat Nat := match L.parts.getLast? with
  | none => (A, L, .error 0)
  | some p =>
    let r := A.append L.dir (sgN p.base) (packN b)
    if r.2 ≠ 0 then (r.1, L, .error r.2) else (r.1, { L with parts := L.parts.dropLast ++ [⟨p.base, p.count + 1, p.size + (8 + b.length)⟩], fin := L.fin + 1 }, .ok L.fin)
def Log.full (L : Log) : Bool := match L.parts.getLast? with
  | none => true
  | some p => decide (L.size ≤ p.size)
def Log.append (L : Log) (A : FS) (b : List Nat) : FS × Log × Except Nat Nat :=
  if 1024 < b.length then (A, L, .error 100) else
  if L.full then
    let r := L.roll A
    if r.2.2 ≠ 0 then (r.1, r.2.1, .error r.2.2) else r.2.1.put r.1 b
  else L.put A b
structure Log.Small (k : Nat) (L : Log) : Prop where
  few : k ≤ 100000
  size : L.size ≤ 16777216
  dir : L.dir.size < 4611686018427387904
  many : L.parts.length ≤ k
  fin : L.fin ≤ k * 16777216
  each : ∀ p ∈ L.parts, p.base ≤ k * 16777216 ∧ p.count ≤ k * 16777216 ∧ p.size ≤ k * 16777216
theorem sgN_size (n : Nat) : (sgN n).size = 18 := by
  unfold sgN
  rw [ByteArray.size_append, ofN_size (Hex.digs_B8 16 n), Hex.digs_length]
  rfl
end AF

def partsC (ps : List AF.Part) : List Value := ps.flatMap fun p => [.int .i64 (p.base : Int), .int .i64 (p.count : Int), .int .i64 (p.size : Int)]
theorem partsC_append (a b : List AF.Part) : partsC (a ++ b) = partsC a ++ partsC b := by simp [partsC]
theorem partsC_cons (p : AF.Part) (b : List AF.Part) : partsC (p :: b) = .int .i64 (p.base : Int) :: .int .i64 (p.count : Int) :: .int .i64 (p.size : Int) :: partsC b := rfl
theorem partsC_length (ps : List AF.Part) : (partsC ps).length = ps.length * 3 := by
  induction ps with
  | nil => rfl
  | cons p ps ih => rw [partsC_cons, List.length_cons, List.length_cons, List.length_cons, ih, List.length_cons]; omega
theorem partsC_get : ∀ {ps : List AF.Part} {i : Nat} {p : AF.Part}, ps[i]? = some p → (partsC ps)[i * 3]? = some (.int .i64 (p.base : Int)) ∧ (partsC ps)[i * 3 + 1]? = some (.int .i64 (p.count : Int)) ∧ (partsC ps)[i * 3 + 2]? = some (.int .i64 (p.size : Int))
  | [], i, p, h => by cases h
  | q :: ps, 0, p, h => by
    cases h
    exact ⟨rfl, rfl, rfl⟩
  | q :: ps, i + 1, p, h => by
    have ih := partsC_get (ps := ps) (i := i) (p := p) h
    rw [show (i + 1) * 3 = i * 3 + 3 by omega, partsC_cons]
    exact ih
theorem partsC_last (a : List AF.Part) (p : AF.Part) : (partsC (a ++ [p])).set (a.length * 3 + 1) (.int .i64 ((p.count + 1 : Nat) : Int)) = partsC (a ++ [⟨p.base, p.count + 1, p.size⟩]) := by
  rw [partsC_append, partsC_append, List.set_append_right _ _ (by rw [partsC_length]; omega), partsC_length, show a.length * 3 + 1 - a.length * 3 = 1 by omega]
  rfl
theorem partsC_last2 (a : List AF.Part) (p : AF.Part) (n : Nat) : (partsC (a ++ [p])).set (a.length * 3 + 2) (.int .i64 ((n : Nat) : Int)) = partsC (a ++ [⟨p.base, p.count, n⟩]) := by
  rw [partsC_append, partsC_append, List.set_append_right _ _ (by rw [partsC_length]; omega), partsC_length, show a.length * 3 + 2 - a.length * 3 = 2 by omega]
  rfl
def logC (fb : Nat) (L : AF.Log) (a : Option Addr) (c : Nat) : Array Value := #[ptrV fb, .string L.dir, .int .i64 (L.size : Int), .slice a L.parts.length c, .int .i64 (L.fin : Int), .int .i64 (L.dur : Int)]
def logP (lb fb : Nat) (L : AF.Log) : HProp := exi fun q : Option Addr × Nat => Many [pt lb (.cells (logC fb L q.1 q.2) 134 (0, 0)), ownS 141 3 q.1 L.parts.length q.2 (partsC L.parts)]
section
variable {lb fb : Nat} {L : AF.Log} {A : AF.FS} {F : List HProp} {h : Heap} {k : Nat}
theorem logP_open (H : sat (logP lb fb L :: F) h) : ∃ (a : Option Addr) (c : Nat), sat (pt lb (.cells (logC fb L a c) 134 (0, 0)) :: ownS 141 3 a L.parts.length c (partsC L.parts) :: F) h := by
  obtain ⟨⟨a, c⟩, H2⟩ := sat_exi.1 H
  exact ⟨a, c, H2.open⟩
theorem logP_shut {a : Option Addr} {c : Nat} (H : sat (pt lb (.cells (logC fb L a c) 134 (0, 0)) :: ownS 141 3 a L.parts.length c (partsC L.parts) :: F) h) : sat (logP lb fb L :: F) h :=
  sat_exi.2 ⟨(a, c), sat.shut (m := [pt lb (.cells (logC fb L a c) 134 (0, 0)), ownS 141 3 a L.parts.length c (partsC L.parts)]) H⟩
theorem F103_spec {n : Nat} (hn : n < 9223372036854775808) (H : sat F h) : CallsH Try.prog 103 [.int .i64 (n : Int)] h fun v h' => v = .string (AF.sgN n) ∧ sat F h' := by
  apply F103b_ok
  unfold F103b
  refine (F39_spec H).mono ?_
  rintro v h1 ⟨rfl, H1⟩
  rw [DS_string, natOf_nat (by omega)]
  refine ⟨?_, rfl, H1⟩
  rw [ofN_size (Hex.digs_B8 16 n), Hex.digs_length]
  decide
/-- Where the last segment stands. -/
def lastA (a : Option Addr) (n : Nat) : Option Addr := if n = 0 then none else a.map fun b => b.add ((n - 1) * 3)
theorem F101_spec {a : Option Addr} {c : Nat} (hs : L.parts.length < 4611686018427387904) (H : sat (pt lb (.cells (logC fb L a c) 134 (0, 0)) :: ownS 141 3 a L.parts.length c (partsC L.parts) :: F) h) :
    CallsH Try.prog 101 [ptrV lb] h fun v h' => v = .pointer (lastA a L.parts.length) ∧ h' = h := by
  apply F101b_ok
  unfold F101b
  simp only [NN'_some']
  refine LdC (v := .slice a L.parts.length c) H rfl ?_
  rw [DSl_slice]
  by_cases h0 : L.parts.length = 0
  · rw [h0, show ((((0 : Nat) : Int)) == 0) = true from rfl, cond_true]
    exact ⟨rfl, by trivial⟩
  · rw [show (((L.parts.length : Nat) : Int) == 0) = false by rw [beq_eq_false_iff_ne]; omega, cond_false]
    refine LdC (v := .slice a L.parts.length c) H rfl ?_
    rw [DSl_slice]
    refine LdC (v := .slice a L.parts.length c) H rfl ?_
    rw [DSl_slice]
    have w : IntKind.wrap .i64 ((L.parts.length : Int) - 1) = ((L.parts.length - 1 : Nat) : Int) := by rw [IntWalk.i64_in _ (by omega)]; omega
    rw [w]
    obtain ⟨b, hb, _⟩ := (ownS_read (H.mv 1)).nilOr (i := 0) (v := (partsC L.parts)[0]'(by rw [partsC_length]; omega)) (List.getElem?_eq_getElem _)
    refine ⟨b, hb, by omega, by omega, ?_, by trivial⟩
    unfold lastA
    rw [if_neg h0, hb, Int.toNat_natCast]
    rfl
theorem last_split {ps : List AF.Part} {p : AF.Part} (h : ps.getLast? = some p) : ps = ps.dropLast ++ [p] := by
  obtain ⟨ys, rfl⟩ := List.getLast?_eq_some_iff.1 h
  rw [List.dropLast_concat]
/-- The last segment's cells. -/
theorem lastCells {a : Option Addr} {c : Nat} {p : AF.Part} (hp : L.parts.getLast? = some p) (H : sat (ownS 141 3 a L.parts.length c (partsC L.parts) :: F) h) :
    ∃ b, a = some b ∧ lastA a L.parts.length = some (b.add (L.parts.dropLast.length * 3)) ∧ cellAt h ((b.add (L.parts.dropLast.length * 3)).add 0) = some (.int .i64 (p.base : Int)) ∧
      cellAt h ((b.add (L.parts.dropLast.length * 3)).add 1) = some (.int .i64 (p.count : Int)) ∧ cellAt h ((b.add (L.parts.dropLast.length * 3)).add 2) = some (.int .i64 (p.size : Int)) := by
  have hs := last_split hp
  have hl : L.parts.length = L.parts.dropLast.length + 1 := by
    have := congrArg List.length hs
    simpa using this
  have hg : L.parts[L.parts.dropLast.length]? = some p := by
    rw [List.getLast?_eq_getElem?] at hp
    rw [← hp, hl]
    rfl
  obtain ⟨h0, h1, h2⟩ := partsC_get hg
  have hr := ownS_read H
  obtain ⟨b, hb, c0⟩ := hr.nilOr h0
  obtain ⟨b1, hb1, c1⟩ := hr.nilOr h1
  obtain ⟨b2, hb2, c2⟩ := hr.nilOr h2
  rw [hb] at hb1 hb2
  cases hb1
  cases hb2
  refine ⟨b, hb, ?_, ?_, ?_, ?_⟩
  · unfold lastA
    rw [if_neg (by omega), hb, hl]
    rfl
  · rw [addr_add_add, Nat.add_zero]; exact c0
  · rw [addr_add_add]; exact c1
  · rw [addr_add_add]; exact c2
theorem F52_spec (W : A.WF) (hs : A.steps < 1099511627776) (S : L.Small k) (H : sat (logP lb fb L :: fsP fb A :: F) h) :
    CallsH Try.prog 52 [ptrV lb] h fun v h' => v = .int .i64 ((L.sync A).2 : Int) ∧ sat (logP lb fb (L.synced (L.sync A).2) :: fsP fb (L.sync A).1 :: F) h' := by
  apply F52b_ok
  unfold F52b
  rw [show (some (⟨lb, 0, none⟩ : Addr)).isNone = false from rfl, cond_false]
  obtain ⟨a, c, H1⟩ := logP_open H
  have hfew := S.few
  have hmany := S.many
  refine (F101_spec (by omega) H1).mono ?_
  rintro v h0 ⟨rfl, rfl⟩
  rw [DP_pointer]
  simp only [NN'_some']
  have setD : ∀ h', sat (pt lb (.cells (logC fb L a c) 134 (0, 0)) :: ownS 141 3 a L.parts.length c (partsC L.parts) :: fsP fb (L.sync A).1 :: F) h' → (L.sync A).2 = 0 →
      Ld h' ((⟨lb, 0, none⟩ : Addr).add 4) fun v6 => DI .i64 v6 fun x7 => StC h' (((⟨lb, 0, none⟩ : Addr).add 5).add 0) (.int .i64 x7) fun h_6 =>
        (Value.int .i64 0 = .int .i64 ((L.sync A).2 : Int) ∧ sat (logP lb fb (L.synced (L.sync A).2) :: fsP fb (L.sync A).1 :: F) h_6) := by
    intro h' H' e0
    refine LdC (v := .int .i64 (L.fin : Int)) H' rfl ?_
    rw [DI_int, addr_add0]
    refine StCC (c' := logC fb { L with dur := L.fin } a c) H' (by show 5 < 6; decide) rfl fun h2 H2 => ?_
    rw [e0]
    refine ⟨rfl, ?_⟩
    rw [AF.Log.synced, if_pos rfl]
    exact logP_shut H2
  cases hp : L.parts.getLast? with
  | none =>
    have h00 : L.parts = [] := by simpa using hp
    have e1 : lastA a L.parts.length = none := by rw [h00]; rfl
    rw [e1, show (!((none : Option Addr)).isNone) = false from rfl, cond_false]
    have es : L.sync A = (A, 0) := by unfold AF.Log.sync; rw [hp]
    have := setD h0 (by rw [es]; exact H1) (by rw [es])
    exact this
  | some p =>
    have es : L.sync A = A.sync L.dir (AF.sgN p.base) := by unfold AF.Log.sync; rw [hp]
    obtain ⟨b, hb, hla, c0, c1, c2⟩ := lastCells hp (H1.mv 1)
    rw [hla, show (!((some (b.add (L.parts.dropLast.length * 3)))).isNone) = true from rfl, cond_true]
    refine LdC (v := ptrV fb) H1 rfl ?_
    show DP (.pointer (some ⟨fb, 0, none⟩)) _
    rw [DP_pointer]
    refine LdC (v := .string L.dir) H1 rfl ?_
    rw [DS_string, NN'_some']
    refine ⟨_, c0, ?_⟩
    show DI .i64 (.int .i64 (p.base : Int)) _
    rw [DI_int]
    have hpb := S.each p (List.mem_of_getLast? hp)
    refine (F103_spec (by omega) H1).mono ?_
    rintro v h2 ⟨rfl, H2⟩
    rw [DS_string]
    refine ⟨rfl, rfl, rfl, LdC (v := ptrV fb) H2 rfl ?_, rfl, rfl, rfl, LdC (v := .string L.dir) H2 rfl (by rw [DS_string]; rfl), ?_⟩
    · show DP (.pointer (some ⟨fb, 0, none⟩)) _
      rw [DP_pointer]
      rfl
    refine (F19_spec W hs S.dir (by rw [AF.sgN_size]; decide) (H2.mv 2)).mono ?_
    rintro v h3 ⟨rfl, H3⟩
    rw [DI_int, ← es]
    rw [← es] at H3
    by_cases he : (L.sync A).2 = 0
    · rw [he, show (((0 : Nat) : Int) != 0) = false from rfl, cond_false]
      have := setD h3 ((H3.mv 1).mv 2 |>.ordT 3 [1, 0, 2]) he
      rw [he] at this
      exact this
    · rw [err_bne he, cond_true]
      refine ⟨rfl, ?_⟩
      rw [AF.Log.synced, if_neg he]
      exact logP_shut (H3.ordT 3 [1, 2, 0])
end

end Go.Proofs.Yticjjdhaikbdaaa

namespace Go.Proofs.Yticjjdhaikbdaaa
open Go Go.RowKit
set_option linter.unusedVariables false
set_option linter.unusedSimpArgs false
set_option maxRecDepth 4000
open Frame (packN packN_length packN_B8)

/-- append, for elements of several cells. -/
def infoSz (P : Program) (e : TypeId) (sz b : Nat) : Bool :=
  match P.info? e with
  | some i => match i.zero with
    | some z => Nat.beq z.cells.size sz && Nat.beq i.size sz && Nat.beq i.bytes b && Nat.ble 1 b && Nat.ble 1 sz
    | none => false
  | none => false
theorem infoSz_ex {P : Program} {e : TypeId} {sz b : Nat} (h : infoSz P e sz b = true) : ∃ i z, P.info? e = some i ∧ i.zero = some z ∧ z.cells.size = sz ∧ i.size = sz ∧ i.bytes = b ∧ 1 ≤ b ∧ 1 ≤ sz := by
  unfold infoSz at h
  split at h
  · rename_i i hi
    split at h
    · rename_i z hz
      simp only [Bool.and_eq_true] at h
      exact ⟨i, z, hi, hz, Nat.eq_of_beq_eq_true h.1.1.1.1, Nat.eq_of_beq_eq_true h.1.1.1.2, Nat.eq_of_beq_eq_true h.1.1.2, Nat.le_of_ble_eq_true h.1.2, Nat.le_of_ble_eq_true h.2⟩
    · cases h
  · cases h
theorem appendN {P : Program} {h : Heap} {F : List HProp} {a : Option Addr} {l c sz : Nat} {xs ys : List Value} {t u ty e : TypeId} {b : Nat} {x : Value} {n : Nat} {K : Value → Heap → Prop}
    (ht : P.underlying t = some (.slice e)) (hu : srcTy P u = true) (hi : infoSz P e sz b = true)
    (H : sat (ownS e sz a l c xs :: F) h) (hx : SrcOf P h sz x n ys) (h1 : ∀ u ∈ ys, u.oneCell' = true) (hb : (l + n) * b ≤ 140737488355328)
    (hK : ∀ a' c' h', (a' = none → l + n = 0) → sat (ownS e sz a' (l + n) c' (xs ++ ys) :: F) h' → K (.slice a' (l + n) c') h') :
    RunH P (Builtin.append_ #[t, u] ty #[.slice a l c, x]) h K := by
  obtain ⟨i, z, e1, e2, e3, e4, e5, e6, e7⟩ := infoSz_ex hi
  subst e5
  have hle : l + n ≤ (l + n) * i.bytes := Nat.le_mul_of_pos_right _ (by omega)
  refine append_sat ht hu e1 e2 (by rw [e3, e4]) (by omega) (by rw [e4]; exact H) (by rw [e4]; exact hx) h1 (by omega) hb (by unfold maxLen; omega) ?_
  rw [e4]
  exact hK
theorem u132 : Try.prog.underlying 132 = some (.slice 141) := by kernel_rfl
theorem src132 : srcTy Try.prog 132 = true := by kernel_rfl
theorem inf141 : infoSz Try.prog 141 3 24 = true := by kernel_rfl

namespace AF
variable {L : Log} {A : FS} {k : Nat}
theorem Log.Small.grow {k' : Nat} (S : L.Small k) (hk : k ≤ k') (hk' : k' ≤ 100000) : L.Small k' := by
  have hm : k * 16777216 ≤ k' * 16777216 := Nat.mul_le_mul_right _ hk
  exact ⟨hk', S.size, S.dir, Nat.le_trans S.many hk, Nat.le_trans S.fin hm, fun p hp => ⟨Nat.le_trans (S.each p hp).1 hm, Nat.le_trans (S.each p hp).2.1 hm, Nat.le_trans (S.each p hp).2.2 hm⟩⟩
theorem Log.sync_wf (W : A.WF) : (L.sync A).1.WF := by
  unfold Log.sync
  split
  · exact W
  · exact W.sync _ _
theorem Log.sync_steps : (L.sync A).1.steps ≤ A.steps + 1 := by
  unfold Log.sync
  split
  · exact Nat.le_succ _
  · exact AF.sync_steps _ _
theorem Log.roll1 (h : (L.sync A).2 ≠ 0) : L.roll A = ((L.sync A).1, L, (L.sync A).2) := by
  unfold Log.roll
  simp only [h, if_true, ne_eq, not_false_eq_true]
theorem Log.roll2 (h : (L.sync A).2 = 0) (h2 : ((L.sync A).1.create L.dir (sgN L.fin)).2 ≠ 0) : L.roll A = (((L.sync A).1.create L.dir (sgN L.fin)).1, { L with dur := L.fin }, ((L.sync A).1.create L.dir (sgN L.fin)).2) := by
  unfold Log.roll
  simp only [h, h2, if_true, if_false, ne_eq, not_false_eq_true, not_true]
theorem Log.roll3 (h : (L.sync A).2 = 0) (h2 : ((L.sync A).1.create L.dir (sgN L.fin)).2 = 0) (h3 : (((L.sync A).1.create L.dir (sgN L.fin)).1.syncDir L.dir).2 ≠ 0) :
    L.roll A = ((((L.sync A).1.create L.dir (sgN L.fin)).1.syncDir L.dir).1, { L with dur := L.fin }, (((L.sync A).1.create L.dir (sgN L.fin)).1.syncDir L.dir).2) := by
  unfold Log.roll
  simp only [h, h2, h3, if_true, if_false, ne_eq, not_false_eq_true, not_true]
theorem Log.roll4 (h : (L.sync A).2 = 0) (h2 : ((L.sync A).1.create L.dir (sgN L.fin)).2 = 0) (h3 : (((L.sync A).1.create L.dir (sgN L.fin)).1.syncDir L.dir).2 = 0) :
    L.roll A = ((((L.sync A).1.create L.dir (sgN L.fin)).1.syncDir L.dir).1, { L with dur := L.fin, parts := L.parts ++ [⟨L.fin, 0, 0⟩] }, 0) := by
  unfold Log.roll
  simp only [h, h2, h3, if_false, ne_eq, not_true]
theorem Log.roll_keeps (W : A.WF) (S : L.Small k) (hk : k < 100000) : (L.roll A).1.WF ∧ (L.roll A).1.steps ≤ A.steps + 3 ∧ (L.roll A).2.1.Small (k + 1) := by
  have W1 := Log.sync_wf (L := L) W
  have s1 := Log.sync_steps (L := L) (A := A)
  have W2 := W1.create L.dir (sgN L.fin)
  have s2 := AF.create_steps (A := (L.sync A).1) L.dir (sgN L.fin)
  have W3 := W2.syncDir L.dir
  have s3 := AF.syncDir_steps (A := ((L.sync A).1.create L.dir (sgN L.fin)).1) L.dir
  have hm := S.many
  have hf := S.fin
  have S1 : L.Small (k + 1) := S.grow (Nat.le_succ k) (by omega)
  have S2 : Log.Small (k + 1) { L with dur := L.fin } := ⟨S1.few, S1.size, S1.dir, S1.many, S1.fin, S1.each⟩
  by_cases h1 : (L.sync A).2 = 0
  · by_cases h2 : ((L.sync A).1.create L.dir (sgN L.fin)).2 = 0
    · by_cases h3 : (((L.sync A).1.create L.dir (sgN L.fin)).1.syncDir L.dir).2 = 0
      · rw [Log.roll4 h1 h2 h3]
        refine ⟨W3, by dsimp only; omega, by omega, S.size, S.dir, ?_, S1.fin, ?_⟩
        · show (L.parts ++ [_]).length ≤ _
          rw [List.length_append, List.length_singleton]
          omega
        · intro p hp
          rcases List.mem_append.1 hp with hp | hp
          · exact S1.each p hp
          · rw [List.mem_singleton] at hp
            subst hp
            exact ⟨S1.fin, Nat.zero_le _, Nat.zero_le _⟩
      · rw [Log.roll3 h1 h2 h3]
        exact ⟨W3, by dsimp only; omega, S2⟩
    · rw [Log.roll2 h1 h2]
      exact ⟨W2, by dsimp only; omega, S2⟩
  · rw [Log.roll1 h1]
    exact ⟨W1, by dsimp only; omega, S1⟩
theorem Log.put_keeps (W : A.WF) (S : L.Small k) (hk : k < 100000) {b : List Nat} (h8 : B8 b) (hl : b.length ≤ 1024) : (L.put A b).1.WF ∧ (L.put A b).1.steps ≤ A.steps + 1 ∧ (L.put A b).2.1.Small (k + 1) := by
  have hm := S.many
  have hf := S.fin
  have S1 : L.Small (k + 1) := S.grow (Nat.le_succ k) (by omega)
  have hk1 : ∀ n : Nat, n * 16777216 + 16777216 = (n + 1) * 16777216 := fun n => by omega
  replace hk1 := hk1 k
  unfold Log.put
  split
  · exact ⟨W, Nat.le_succ _, S1⟩
  · rename_i p hp
    have W1 := W.append L.dir (sgN p.base) (packN_B8 h8)
    have s1 := AF.append_steps (A := A) L.dir (sgN p.base) (packN b)
    have hpm := List.mem_of_getLast? hp
    have hpe := S.each p hpm
    have hlen : 1 ≤ L.parts.length := List.length_pos_of_mem hpm
    simp only
    split
    · exact ⟨W1, s1, S1⟩
    · refine ⟨W1, s1, by omega, S.size, S.dir, ?_, ?_, ?_⟩
      · show (L.parts.dropLast ++ [_]).length ≤ _
        rw [List.length_append, List.length_singleton, List.length_dropLast]
        omega
      · show L.fin + 1 ≤ _
        rw [← hk1]
        omega
      · intro q hq
        rcases List.mem_append.1 hq with hq | hq
        · exact S1.each q (List.dropLast_subset _ hq)
        · rw [List.mem_singleton] at hq
          subst hq
          show p.base ≤ _ ∧ p.count + 1 ≤ _ ∧ p.size + (8 + b.length) ≤ _
          rw [← hk1]
          exact ⟨Nat.le_trans hpe.1 (Nat.le_add_right _ _), Nat.add_le_add hpe.2.1 (by decide), Nat.add_le_add hpe.2.2 (by omega)⟩
end AF

section
variable {lb fb : Nat} {L : AF.Log} {A : AF.FS} {F : List HProp} {h : Heap} {k : Nat}
theorem LdPtr {h : Heap} {F : List HProp} {b i : Nat} {c : Array Value} {e : TypeId} {fr : Nat × Nat} {x : Nat} {K : Option Addr → Prop} (H : sat (pt b (.cells c e fr) :: F) h) (hv : c[i]? = some (ptrV x)) (hK : K (some ⟨x, 0, none⟩)) :
    Ld h ((Addr.mk b 0 none).add i) fun v => DP v K := LdC (v := ptrV x) H hv ⟨_, rfl, hK⟩
theorem LdStr {h : Heap} {F : List HProp} {b i : Nat} {c : Array Value} {e : TypeId} {fr : Nat × Nat} {x : ByteArray} {K : ByteArray → Prop} (H : sat (pt b (.cells c e fr) :: F) h) (hv : c[i]? = some (.string x)) (hK : K x) :
    Ld h ((Addr.mk b 0 none).add i) fun v => DS v K := LdC (v := .string x) H hv ⟨_, rfl, hK⟩
theorem LdInt {h : Heap} {F : List HProp} {b i : Nat} {c : Array Value} {e : TypeId} {fr : Nat × Nat} {k : IntKind} {x : Int} {K : Int → Prop} (H : sat (pt b (.cells c e fr) :: F) h) (hv : c[i]? = some (.int k x)) (hK : K x) :
    Ld h ((Addr.mk b 0 none).add i) fun v => DI k v K := LdC (v := .int k x) H hv ⟨_, rfl, hK⟩
theorem LdSl {h : Heap} {F : List HProp} {b i : Nat} {c : Array Value} {e : TypeId} {fr : Nat × Nat} {a : Option Addr} {l m : Nat} {K : Option Addr → Nat → Nat → Prop} (H : sat (pt b (.cells c e fr) :: F) h) (hv : c[i]? = some (.slice a l m)) (hK : K a l m) :
    Ld h ((Addr.mk b 0 none).add i) fun v => DSl v K := LdC (v := .slice a l m) H hv (by rw [DSl_slice]; exact hK)
theorem F102_spec (W : A.WF) (hs : A.steps + 3 < 1099511627776) (S : L.Small k) (hk : k < 100000) (H : sat (logP lb fb L :: fsP fb A :: F) h) :
    CallsH Try.prog 102 [ptrV lb] h fun v h' => v = .int .i64 ((L.roll A).2.2 : Int) ∧ sat (logP lb fb (L.roll A).2.1 :: fsP fb (L.roll A).1 :: F) h' := by
  apply F102b_ok
  unfold F102b
  refine (F52_spec W (by omega) S H).mono ?_
  rintro v h0 ⟨rfl, H0⟩
  rw [DI_int]
  have W1 := AF.Log.sync_wf (L := L) W
  have s1 := AF.Log.sync_steps (L := L) (A := A)
  have hm := S.many
  have hf := S.fin
  by_cases e1 : (L.sync A).2 = 0
  · rw [e1, AF.Log.synced, if_pos rfl] at H0
    rw [e1, show (((0 : Nat) : Int) != 0) = false from rfl, cond_false]
    simp only [NN'_some']
    obtain ⟨a, c, H1⟩ := logP_open H0
    refine LdPtr H1 rfl ?_
    refine LdStr H1 rfl ?_
    refine LdInt (x := (L.fin : Int)) H1 rfl ?_
    refine (F103_spec (by omega) H1).mono ?_
    rintro v h2 ⟨rfl, H2⟩
    rw [DS_string]
    refine ⟨rfl, rfl, rfl, LdPtr H2 rfl rfl, rfl, rfl, rfl, LdStr H2 rfl rfl, ?_⟩
    refine (F17_spec W1 (by omega) S.dir (by rw [AF.sgN_size]; decide) (H2.mv 2)).mono ?_
    rintro v h3 ⟨rfl, H3⟩
    rw [DI_int]
    have W2 := W1.create L.dir (AF.sgN L.fin)
    have s2 := AF.create_steps (A := (L.sync A).1) L.dir (AF.sgN L.fin)
    by_cases e2 : ((L.sync A).1.create L.dir (AF.sgN L.fin)).2 = 0
    · rw [e2, show (((0 : Nat) : Int) != 0) = false from rfl, cond_false]
      have H4 := H3.ordT 3 [1, 2, 0]
      refine LdPtr H4 rfl ?_
      refine LdStr H4 rfl ?_
      refine (F20_spec W2 (by omega) S.dir H3).mono ?_
      rintro v h4 ⟨rfl, H5⟩
      rw [DI_int]
      by_cases e3 : (((L.sync A).1.create L.dir (AF.sgN L.fin)).1.syncDir L.dir).2 = 0
      · rw [e3, show (((0 : Nat) : Int) != 0) = false from rfl, cond_false, AF.Log.roll4 e1 e2 e3]
        have H6 := H5.ordT 3 [1, 2, 0]
        refine LdSl (a := a) (l := L.parts.length) (m := c) H6 rfl ?_
        refine LdInt (x := (L.fin : Int)) H6 rfl ?_
        refine Al_sat H6 fun b0 h5 H7 => ?_
        refine ⟨rfl, rfl, rfl, rfl, LdSl (a := a) (l := L.parts.length) (m := c) (H7.mv 1) rfl rfl, ?_⟩
        have hr : RdC h5 (some ⟨b0, 0, none⟩) (partsC [⟨L.fin, 0, 0⟩]) := RdCf H7 rfl
        refine appendN u132 src132 inf141 (H7.mv 2) (n := 1) (srcOf_slice hr rfl) (by intro u hu; simp [partsC] at hu; rcases hu with rfl | rfl <;> rfl) (by omega) fun a' c' h6 _ H8 => ?_
        rw [DSl_slice]
        refine ⟨rfl, ?_⟩
        have H9 := H8.ordT 4 [2, 0, 3]
        rw [addr_add0]
        refine StCC (c' := logC fb { L with dur := L.fin, parts := L.parts ++ [⟨L.fin, 0, 0⟩] } a' c') H9 (by show 3 < 6; decide) (by simp only [logC, List.length_append, List.length_singleton]; rfl) fun h7 H10 => ?_
        refine ⟨rfl, logP_shut (a := a') (c := c') ?_⟩
        rw [← partsC_append] at H10
        rw [show ({ L with dur := L.fin, parts := L.parts ++ [⟨L.fin, 0, 0⟩] } : AF.Log).parts = L.parts ++ [⟨L.fin, 0, 0⟩] from rfl, List.length_append, List.length_singleton]
        exact H10
      · rw [err_bne e3, cond_true, AF.Log.roll3 e1 e2 e3]
        exact ⟨rfl, logP_shut (H5.ordT 3 [1, 2, 0])⟩
    · rw [err_bne e2, cond_true, AF.Log.roll2 e1 e2]
      exact ⟨rfl, logP_shut (H3.ordT 3 [1, 2, 0])⟩
  · rw [AF.Log.synced, if_neg e1] at H0
    rw [err_bne e1, cond_true, AF.Log.roll1 e1]
    exact ⟨rfl, H0⟩
theorem put_tail {ba : Option Addr} {bl bc : Nat} {bs : List Nat} {Q : Value → Heap → Prop} (W : A.WF) (hs : A.steps < 1099511627776) (S : L.Small k) (hp0 : L.parts ≠ [])
    (hr : ∀ h', sat F h' → RdC h' ba (bs.map nv)) (h8 : B8 bs) (hl : bs.length = bl) (hlb : bl ≤ 1024) (H : sat (logP lb fb L :: fsP fb A :: F) h)
    (hQ : ∀ h', sat (logP lb fb (L.put A bs).2.1 :: fsP fb (L.put A bs).1 :: F) h' → Q (cleanV (L.put A bs).2.2) h') :
    CallsH Try.prog 90 [.slice ba bl bc] h fun r2 h_2 =>
    ∃ (x0a : Option Addr), ∃ (x0l : Nat), ∃ (x0c : Nat), ∃ (x1 : Int), r2 = .tuple #[.slice x0a x0l x0c, .int .i64 x1] ∧
    (bif (x1 : Int) != 0 then
      Q (.tuple #[.int .i64 0, .int .i64 x1]) h_2
    else
      CallsH Try.prog 101 [.pointer (some ⟨lb, 0, none⟩)] h_2 fun r3 h_3 =>
      DP r3 fun p1 =>
      NN' (some (⟨lb, 0, none⟩ : Addr)) fun a0 =>
      Ld h_3 (a0.add 0) fun v0 => DP v0 fun x2 =>
      NN' (some (⟨lb, 0, none⟩ : Addr)) fun a1 =>
      Ld h_3 (a1.add 1) fun v1 => DS v1 fun x3 =>
      NN' p1 fun a2 =>
      Ld h_3 (a2.add 0) fun v2 => DI .i64 v2 fun x4 =>
      CallsH Try.prog 103 [.int .i64 x4] h_3 fun r4 h_4 =>
      DS r4 fun x5 =>
      (SameV (some (.pointer (some ⟨lb, 0, none⟩))) (.pointer (some ⟨lb, 0, none⟩))) ∧
      (NN' (some (⟨lb, 0, none⟩ : Addr)) fun a3 =>
      SameV (some (.pointer (some a0))) (.pointer (some a3))) ∧
      (SameV (some (.pointer (some (a0.add 0)))) (.pointer (some (a0.add 0)))) ∧
      (Ld h_4 (a0.add 0) fun v3 => DP v3 fun x6 =>
      SameV (some (.pointer x2)) (.pointer x6)) ∧
      (SameV (some (.pointer (some ⟨lb, 0, none⟩))) (.pointer (some ⟨lb, 0, none⟩))) ∧
      (NN' (some (⟨lb, 0, none⟩ : Addr)) fun a4 =>
      SameV (some (.pointer (some a1))) (.pointer (some a4))) ∧
      (SameV (some (.pointer (some (a1.add 1)))) (.pointer (some (a1.add 1)))) ∧
      (Ld h_4 (a1.add 1) fun v4 => DS v4 fun x7 =>
      SameV (some (.string x3)) (.string x7)) ∧
      (SameV (some (.slice x0a x0l x0c)) (.slice x0a x0l x0c)) ∧
      CallsH Try.prog 18 [.pointer x2, .string x3, .string x5, .slice x0a x0l x0c] h_4 fun r5 h_5 =>
      DI .i64 r5 fun e1 =>
      (bif (e1 : Int) != 0 then
        Q (.tuple #[.int .i64 0, .int .i64 e1]) h_5
      else
        NN' p1 fun a5 =>
        Ld h_5 (a5.add 1) fun v5 => DI .i64 v5 fun x8 =>
        NN' p1 fun a6 =>
        StC h_5 ((a6.add 1).add 0) (.int .i64 (IntKind.wrap .i64 (x8 + 1))) fun h_7 =>
        NN' p1 fun a7 =>
        Ld h_7 (a7.add 2) fun v6 => DI .i64 v6 fun x9 =>
        NN' p1 fun a8 =>
        StC h_7 ((a8.add 2).add 0) (.int .i64 (IntKind.wrap .i64 (x9 + (x0l : Int)))) fun h_9 =>
        NN' (some (⟨lb, 0, none⟩ : Addr)) fun a9 =>
        Ld h_9 (a9.add 4) fun v7 => DI .i64 v7 fun x10 =>
        NN' (some (⟨lb, 0, none⟩ : Addr)) fun a10 =>
        StC h_9 ((a10.add 4).add 0) (.int .i64 (IntKind.wrap .i64 (x10 + 1))) fun h_11 =>
        NN' (some (⟨lb, 0, none⟩ : Addr)) fun a11 =>
        Ld h_11 (a11.add 4) fun v8 => DI .i64 v8 fun x11 =>
        Q (.tuple #[.int .i64 (IntKind.wrap .i64 (x11 - 1)), .int .i64 0]) h_11)) := by
  obtain ⟨p, hp⟩ : ∃ p, L.parts.getLast? = some p := by
    cases hg : L.parts.getLast? with
    | none => exact absurd (by simpa using hg) hp0
    | some p => exact ⟨p, rfl⟩
  have hpb := S.each p (List.mem_of_getLast? hp)
  have hfew := S.few
  have hmany := S.many
  have hfin := S.fin
  refine (F90_spec H (fun h' hh => hr h' hh.drop.drop) h8 hl (by omega)).mono ?_
  rintro v h2 ⟨pb, pc, rfl, H2⟩
  refine ⟨some pb, 8 + bl, pc, 0, rfl, ?_⟩
  rw [show ((0 : Int) != 0) = false from rfl, cond_false]
  obtain ⟨a, c, H3⟩ := logP_open (H2.mv 1)
  refine (F101_spec (by omega) H3).mono ?_
  rintro v h3 ⟨rfl, rfl⟩
  rw [DP_pointer]
  simp only [NN'_some']
  refine LdPtr H3 rfl ?_
  refine LdStr H3 rfl ?_
  obtain ⟨b, hb, hla, c0, c1, c2⟩ := lastCells hp (H3.mv 1)
  rw [hla, NN'_some']
  refine ⟨_, c0, _, rfl, ?_⟩
  refine (F103_spec (by omega) H3).mono ?_
  rintro v h4 ⟨rfl, H4⟩
  rw [DS_string]
  refine ⟨rfl, rfl, rfl, LdPtr H4 rfl rfl, rfl, rfl, rfl, LdStr H4 rfl rfl, rfl, ?_⟩
  -- pt lb, ownS parts, own pack, fsP, F
  refine (F18_spec (bs := packN bs) W hs S.dir (by rw [AF.sgN_size]; decide) (F := pt lb (.cells (logC fb L a c) 134 (0, 0)) :: ownS 141 3 a L.parts.length c (partsC L.parts) :: ownS 5 1 (some pb) (8 + bl) pc ((packN bs).map nv) :: F) (fun h' hh => ownS_read (hh.mv 2)) (by rw [packN_length, hl]) (by omega) (H4.mv 3)).mono ?_
  rintro v h5 ⟨rfl, H5⟩
  rw [DI_int]
  have H6 := H5.ordT 4 [1, 2, 0]
  by_cases he : (A.append L.dir (AF.sgN p.base) (packN bs)).2 = 0
  · rw [he, show (((0 : Nat) : Int) != 0) = false from rfl, cond_false]
    have ep : L.put A bs = ((A.append L.dir (AF.sgN p.base) (packN bs)).1, { L with parts := L.parts.dropLast ++ [⟨p.base, p.count + 1, p.size + (8 + bs.length)⟩], fin := L.fin + 1 }, .ok L.fin) := by
      unfold AF.Log.put
      rw [hp]
      simp only [he, if_false, ne_eq, not_true]
    rw [ep] at hQ
    subst hb
    have hsp := last_split hp
    have hlen : L.parts.length = L.parts.dropLast.length + 1 := by
      have := congrArg List.length hsp
      simpa using this
    generalize hd : L.parts.dropLast = ps at hsp hlen hQ hla c0 c1 c2
    obtain ⟨b', hb', hla', d0, d1, d2⟩ := lastCells hp (H6.mv 1)
    cases hb'
    rw [hd] at d0 d1 d2
    simp only [NN'_some']
    refine ⟨_, d1, _, rfl, ?_⟩
    have w1 : IntKind.wrap .i64 ((p.count : Int) + 1) = ((p.count + 1 : Nat) : Int) := wrap64_succ (by omega)
    have w2 : IntKind.wrap .i64 ((p.size : Int) + ((8 + bl : Nat) : Int)) = ((p.size + (8 + bs.length) : Nat) : Int) := by rw [IntWalk.i64_in _ (by omega), hl]; omega
    have w3 : IntKind.wrap .i64 ((L.fin : Int) + 1) = ((L.fin + 1 : Nat) : Int) := wrap64_succ (by omega)
    have w4 : IntKind.wrap .i64 (((L.fin + 1 : Nat) : Int) - 1) = (L.fin : Int) := by rw [IntWalk.i64_in _ (by omega)]; omega
    show StC h5 (((b.add (ps.length * 3)).add 1).add 0) (.int .i64 (IntKind.wrap .i64 ((p.count : Int) + 1))) _
    rw [w1, addr_add0, addr_add_add]
    have H7 := H6.mv 1
    rw [hsp] at H7
    have hsz : ∀ q : AF.Part, (partsC (ps ++ [q])).length = ps.length * 3 + 3 := fun q => by rw [partsC_length, List.length_append, List.length_singleton]; omega
    refine ownS_set H7 (j := ps.length * 3 + 1) (by rw [hsz]; omega) fun h6 H8 => ?_
    rw [partsC_last] at H8
    have g2 : cellAt h6 ((b.add (ps.length * 3)).add 2) = some (.int .i64 (p.size : Int)) := by
      rw [addr_add_add]
      exact (ownS_read H8) _ _ (partsC_get (ps := ps ++ [⟨p.base, p.count + 1, p.size⟩]) (i := ps.length) (p := ⟨p.base, p.count + 1, p.size⟩) (by simp)).2.2
    refine ⟨_, g2, _, rfl, ?_⟩
    show StC h6 (((b.add (ps.length * 3)).add 2).add 0) (.int .i64 (IntKind.wrap .i64 ((p.size : Int) + ((8 + bl : Nat) : Int)))) _
    rw [w2, addr_add0, addr_add_add]
    refine ownS_set H8 (j := ps.length * 3 + 2) (by rw [hsz]; omega) fun h7 H9 => ?_
    rw [show (⟨p.base, p.count + 1, p.size⟩ : AF.Part) = ⟨p.base, p.count + 1, p.size⟩ from rfl, partsC_last2] at H9
    have H10 := H9.mv 1
    refine LdInt (x := (L.fin : Int)) H10 rfl ?_
    rw [w3, addr_add0]
    refine StCC (c' := logC fb { L with parts := ps ++ [⟨p.base, p.count + 1, p.size + (8 + bs.length)⟩], fin := L.fin + 1 } (some b) c) H10 (by show 4 < 6; decide) (by
      have ec : (ps ++ [(⟨p.base, p.count + 1, p.size + (8 + bs.length)⟩ : AF.Part)]).length = L.parts.length := by rw [hlen]; simp
      show _ = #[ptrV fb, .string L.dir, .int .i64 (L.size : Int), .slice (some b) (ps ++ [(⟨p.base, p.count + 1, p.size + (8 + bs.length)⟩ : AF.Part)]).length c, .int .i64 ((L.fin + 1 : Nat) : Int), .int .i64 (L.dur : Int)]
      rw [ec]
      rfl) fun h8' H11 => ?_
    refine LdInt (x := ((L.fin + 1 : Nat) : Int)) H11 rfl ?_
    rw [w4]
    refine hQ _ (logP_shut (a := some b) (c := c) ?_)
    rw [show (ps ++ [p]).length = (ps ++ [(⟨p.base, p.count + 1, p.size + (8 + bs.length)⟩ : AF.Part)]).length by simp] at H11
    exact H11
  · rw [err_bne he, cond_true]
    have ep : L.put A bs = ((A.append L.dir (AF.sgN p.base) (packN bs)).1, L, .error (A.append L.dir (AF.sgN p.base) (packN bs)).2) := by
      unfold AF.Log.put
      rw [hp]
      simp only [he, if_true, ne_eq, not_false_eq_true]
    rw [ep] at hQ
    exact hQ _ (logP_shut H6)
end

end Go.Proofs.Yticjjdhaikbdaaa

namespace Go.Proofs.Yticjjdhaikbdaaa
open Go Go.RowKit
set_option linter.unusedVariables false
set_option linter.unusedSimpArgs false
open Frame (packN packN_length packN_B8)

namespace AF
variable {L : Log} {A : FS} {k : Nat} {b : List Nat}
theorem Log.append_roll (hl : ¬ 1024 < b.length) (hf : L.full = true) (he : (L.roll A).2.2 ≠ 0) : L.append A b = ((L.roll A).1, (L.roll A).2.1, .error (L.roll A).2.2) := by
  unfold Log.append
  simp only [hl, hf, he, if_true, if_false, ne_eq, not_false_eq_true]
theorem Log.append_on (hl : ¬ 1024 < b.length) (hf : L.full = true) (he : (L.roll A).2.2 = 0) : L.append A b = (L.roll A).2.1.put (L.roll A).1 b := by
  unfold Log.append
  simp only [hl, hf, he, if_true, if_false, ne_eq, not_true]
theorem Log.append_put (hl : ¬ 1024 < b.length) (hf : L.full = false) : L.append A b = L.put A b := by
  unfold Log.append
  simp only [hl, hf, if_false, Bool.false_eq_true]
theorem Log.roll_parts (he : (L.roll A).2.2 = 0) : (L.roll A).2.1.parts ≠ [] := by
  by_cases h1 : (L.sync A).2 = 0
  · by_cases h2 : ((L.sync A).1.create L.dir (sgN L.fin)).2 = 0
    · by_cases h3 : (((L.sync A).1.create L.dir (sgN L.fin)).1.syncDir L.dir).2 = 0
      · rw [Log.roll4 h1 h2 h3]
        simp
      · rw [Log.roll3 h1 h2 h3] at he
        exact absurd he h3
    · rw [Log.roll2 h1 h2] at he
      exact absurd he h2
  · rw [Log.roll1 h1] at he
    exact absurd he h1
/-- Ends rise, and the last is not behind the log's end. -/
structure Log.Up (L : Log) : Prop where
  ends : ∀ p ∈ L.parts, p.base + p.count ≤ L.fin
  rise : L.parts.Pairwise fun p q => p.base + p.count ≤ q.base + q.count
theorem Log.roll_up (U : L.Up) : (L.roll A).2.1.Up := by
  have U2 : Log.Up { L with dur := L.fin } := ⟨U.ends, U.rise⟩
  by_cases h1 : (L.sync A).2 = 0
  · by_cases h2 : ((L.sync A).1.create L.dir (sgN L.fin)).2 = 0
    · by_cases h3 : (((L.sync A).1.create L.dir (sgN L.fin)).1.syncDir L.dir).2 = 0
      · rw [Log.roll4 h1 h2 h3]
        constructor
        · intro p hp
          rcases List.mem_append.1 hp with hp | hp
          · exact U.ends p hp
          · rw [List.mem_singleton] at hp
            subst hp
            exact Nat.le_refl _
        · show (L.parts ++ [_]).Pairwise _
          rw [List.pairwise_append]
          refine ⟨U.rise, List.pairwise_singleton _ _, fun p hp q hq => ?_⟩
          rw [List.mem_singleton] at hq
          subst hq
          exact U.ends p hp
      · rw [Log.roll3 h1 h2 h3]
        exact U2
    · rw [Log.roll2 h1 h2]
      exact U2
  · rw [Log.roll1 h1]
    exact U
theorem Log.put_up (U : L.Up) : (L.put A b).2.1.Up := by
  unfold Log.put
  split
  · exact U
  · rename_i p hp
    have hsp := last_split hp
    simp only
    split
    · exact U
    · have hr := U.rise
      rw [hsp, List.pairwise_append] at hr
      constructor
      · intro q hq
        rcases List.mem_append.1 hq with hq | hq
        · have := U.ends q (List.dropLast_subset _ hq)
          show q.base + q.count ≤ L.fin + 1
          omega
        · rw [List.mem_singleton] at hq
          subst hq
          have := U.ends p (List.mem_of_getLast? hp)
          show p.base + (p.count + 1) ≤ L.fin + 1
          omega
      · show (L.parts.dropLast ++ [_]).Pairwise _
        rw [List.pairwise_append]
        refine ⟨hr.1, List.pairwise_singleton _ _, fun q hq q' hq' => ?_⟩
        rw [List.mem_singleton] at hq'
        subst hq'
        have := hr.2.2 q hq p (by simp)
        show q.base + q.count ≤ p.base + (p.count + 1)
        omega
theorem Log.append_up (U : L.Up) : (L.append A b).2.1.Up := by
  unfold Log.append
  split
  · exact U
  · split
    · simp only
      split
      · exact Log.roll_up U
      · exact Log.put_up (Log.roll_up U)
    · exact Log.put_up U
theorem Log.append_keeps (W : A.WF) (S : L.Small k) (hk : k + 1 < 100000) (h8 : B8 b) : (L.append A b).1.WF ∧ (L.append A b).1.steps ≤ A.steps + 4 ∧ (L.append A b).2.1.Small (k + 2) := by
  have R := Log.roll_keeps (L := L) (A := A) W S (by omega)
  unfold Log.append
  split
  · exact ⟨W, by dsimp only; omega, S.grow (by omega) (by omega)⟩
  · rename_i hl
    split
    · simp only
      split
      · exact ⟨R.1, by dsimp only; omega, R.2.2.grow (by omega) (by omega)⟩
      · have P := Log.put_keeps (A := (L.roll A).1) R.1 R.2.2 (by omega) h8 (by omega)
        exact ⟨P.1, by omega, P.2.2⟩
    · have P := Log.put_keeps (A := A) W S (by omega) h8 (by omega)
      exact ⟨P.1, by omega, P.2.2.grow (by omega) (by omega)⟩
end AF

section
variable {lb fb : Nat} {L : AF.Log} {A : AF.FS} {F : List HProp} {h : Heap} {k : Nat}
theorem F50_spec {ba : Option Addr} {bl bc : Nat} {bs : List Nat} (W : A.WF) (hs : A.steps + 4 < 1099511627776) (S : L.Small k) (hk : k + 1 < 100000)
    (hr : ∀ h', sat F h' → RdC h' ba (bs.map nv)) (h8 : B8 bs) (hl : bs.length = bl) (H : sat (logP lb fb L :: fsP fb A :: F) h) :
    CallsH Try.prog 50 [ptrV lb, .slice ba bl bc] h fun v h' => v = cleanV (L.append A bs).2.2 ∧ sat (logP lb fb (L.append A bs).2.1 :: fsP fb (L.append A bs).1 :: F) h' := by
  apply F50b_ok
  unfold F50b
  rw [show (some (⟨lb, 0, none⟩ : Addr)).isNone = false from rfl, cond_false]
  by_cases hbig : 1024 < bl
  · rw [decide_eq_true (show ((bl : Int) > 1024) by omega), cond_true]
    have e : L.append A bs = (A, L, .error 100) := by
      unfold AF.Log.append
      rw [if_pos (by omega)]
    rw [e]
    exact ⟨rfl, H⟩
  · rw [decide_eq_false (show ¬ ((bl : Int) > 1024) by omega), cond_false]
    obtain ⟨a, c, H1⟩ := logP_open H
    have hfew := S.few
    have hmany := S.many
    have nl : ¬ 1024 < bs.length := by omega
    refine (F101_spec (by omega) H1).mono ?_
    rintro v h0 ⟨rfl, rfl⟩
    rw [DP_pointer]
    have R := AF.Log.roll_keeps (L := L) (A := A) W S (by omega)
    have rolled : ∀ (hf : L.full = true) (e0 : (L.roll A).2.2 = 0), ∀ h', sat (logP lb fb (L.roll A).2.1 :: fsP fb (L.roll A).1 :: F) h' → _ := fun hf e0 h' H' =>
      put_tail (h := h') (Q := fun v h' => v = cleanV (L.append A bs).2.2 ∧ sat (logP lb fb (L.append A bs).2.1 :: fsP fb (L.append A bs).1 :: F) h') (bc := bc) R.1 (by omega) R.2.2 (AF.Log.roll_parts e0) hr h8 hl (by omega) H' (fun h2 H2 => by
        rw [AF.Log.append_on nl hf e0]
        exact ⟨rfl, H2⟩)
    cases hp : L.parts.getLast? with
    | none =>
      have h00 : L.parts = [] := by simpa using hp
      have hf : L.full = true := by unfold AF.Log.full; rw [hp]
      have e1 : lastA a L.parts.length = none := by rw [h00]; rfl
      rw [e1, show ((none : Option Addr)).isNone = true from rfl, cond_true]
      refine (F102_spec W (by omega) S (by omega) H).mono ?_
      rintro v h2 ⟨rfl, H2⟩
      rw [DI_int]
      by_cases e0 : (L.roll A).2.2 = 0
      · rw [e0, show (((0 : Nat) : Int) != 0) = false from rfl, cond_false]
        exact rolled hf e0 h2 H2
      · rw [err_bne e0, cond_true, AF.Log.append_roll nl hf e0]
        exact ⟨rfl, H2⟩
    | some p =>
      obtain ⟨b, hb, hla, c0, c1, c2⟩ := lastCells hp (H1.mv 1)
      rw [hla, show ((some (b.add (L.parts.dropLast.length * 3)))).isNone = false from rfl, cond_false]
      simp only [NN'_some']
      refine ⟨_, c2, _, rfl, ?_⟩
      refine LdInt (x := (L.size : Int)) H1 rfl ?_
      by_cases hsz : L.size ≤ p.size
      · have hf : L.full = true := by unfold AF.Log.full; rw [hp]; exact decide_eq_true hsz
        rw [decide_eq_true (show ((p.size : Int) ≥ (L.size : Int)) by omega), cond_true]
        refine (F102_spec W (by omega) S (by omega) H).mono ?_
        rintro v h2 ⟨rfl, H2⟩
        rw [DI_int]
        by_cases e0 : (L.roll A).2.2 = 0
        · rw [e0, show (((0 : Nat) : Int) != 0) = false from rfl, cond_false]
          exact rolled hf e0 h2 H2
        · rw [err_bne e0, cond_true, AF.Log.append_roll nl hf e0]
          exact ⟨rfl, H2⟩
      · have hf : L.full = false := by unfold AF.Log.full; rw [hp]; exact decide_eq_false hsz
        rw [decide_eq_false (show ¬ ((p.size : Int) ≥ (L.size : Int)) by omega), cond_false]
        exact put_tail (Q := fun v h' => v = cleanV (L.append A bs).2.2 ∧ sat (logP lb fb (L.append A bs).2.1 :: fsP fb (L.append A bs).1 :: F) h') (bc := bc) W (by omega) S (by intro e; rw [e] at hp; cases hp) hr h8 hl (by omega) H (fun h2 H2 => by
          rw [AF.Log.append_put nl hf]
          exact ⟨rfl, H2⟩)
theorem F54_spec (H : sat (logP lb fb L :: F) h) : CallsH Try.prog 54 [ptrV lb] h fun v h' => v = .int .i64 (L.dur : Int) ∧ h' = h := by
  apply F54b_ok
  unfold F54b
  rw [show (some (⟨lb, 0, none⟩ : Addr)).isNone = false from rfl, cond_false]
  obtain ⟨a, c, H1⟩ := logP_open H
  simp only [NN'_some']
  exact LdInt (x := (L.dur : Int)) H1 rfl ⟨rfl, by trivial⟩
theorem F55_spec (H : sat (logP lb fb L :: F) h) : CallsH Try.prog 55 [ptrV lb] h fun v h' => v = .int .i64 (L.parts.length : Int) ∧ h' = h := by
  apply F55b_ok
  unfold F55b
  rw [show (some (⟨lb, 0, none⟩ : Addr)).isNone = false from rfl, cond_false]
  obtain ⟨a, c, H1⟩ := logP_open H
  simp only [NN'_some']
  exact LdSl (a := a) (l := L.parts.length) (m := c) H1 rfl ⟨rfl, by trivial⟩
/-- The search: the first place from which on something holds. -/
theorem F104_spec {n : Nat} {f : Fn} {fp fc : Array Value} (p : Nat → Bool) (hn : n < 4611686018427387904)
    (hf : ∀ i, i < n → CallV Try.prog (.func f fp fc) [.int .i64 (i : Int)] h fun r h' => r = .bool (p i) ∧ h' = h) (hm : ∀ i j, i ≤ j → j < n → p i = true → p j = true) :
    CallsH Try.prog 104 [.int .i64 (n : Int), .func f fp fc] h fun v h' => h' = h ∧ ∃ k, k ≤ n ∧ v = .int .i64 (k : Int) ∧ (∀ i, i < k → p i = false) ∧ ∀ i, k ≤ i → i < n → p i = true := by
  apply F104b_ok
  unfold F104b
  refine ⟨fun st hh => hh = h ∧ ∃ i j : Nat, st = ((i : Int), (j : Int)) ∧ i ≤ j ∧ j ≤ n ∧ (∀ x, x < i → p x = false) ∧ ∀ x, j ≤ x → x < n → p x = true, fun st _ => (st.2 - st.1).toNat,
    ⟨rfl, 0, n, rfl, Nat.zero_le _, Nat.le_refl _, fun x hx => by omega, fun x hx hx2 => by omega⟩, ?_⟩
  rintro st h1 ⟨rfl, i, j, rfl, hij, hjn, hlo, hhi⟩
  by_cases hlt : i < j
  · rw [decide_eq_true (show ((i : Int) < (j : Int)) by omega), cond_true]
    have w : IntKind.wrap .i64 (shrI .u64 (IntKind.wrap .u64 (IntKind.wrap .i64 ((i : Int) + (j : Int)))) 1) = (((i + j) / 2 : Nat) : Int) := by
      rw [show ((i : Int) + (j : Int)) = ((i + j : Nat) : Int) by omega, IntWalk.i64_in ((i + j : Nat) : Int) (by omega), IntWalk.u64_in ((i + j : Nat) : Int) (by omega), show (1 : Int) = ((1 : Nat) : Int) from rfl, shrI_nat .u64 (i + j) 1 (by decide), Nat.pow_one, IntWalk.i64_in _ (by omega)]
    dsimp only
    rw [w]
    refine ⟨by decide, (hf ((i + j) / 2) (by omega)).mono ?_⟩
    rintro r h2 ⟨rfl, rfl⟩
    rw [DB_bool]
    cases hp : p ((i + j) / 2) with
    | false =>
      rw [Bool.not_false, cond_true, wrap64_succ (by omega)]
      refine ⟨⟨rfl, (i + j) / 2 + 1, j, rfl, by omega, hjn, fun x hx => ?_, hhi⟩, by omega⟩
      cases hx2 : p x with
      | false => rfl
      | true => rw [hm x ((i + j) / 2) (by omega) (by omega) hx2] at hp; cases hp
    | true =>
      rw [Bool.not_true, cond_false]
      refine ⟨⟨rfl, i, (i + j) / 2, rfl, by omega, by omega, hlo, fun x hx hx2 => hm _ x hx hx2 hp⟩, by omega⟩
  · rw [decide_eq_false (by omega), cond_false]
    have : i = j := by omega
    subst this
    exact ⟨rfl, i, hjn, rfl, hlo, hhi⟩
end

end Go.Proofs.Yticjjdhaikbdaaa

namespace Go.Proofs.Yticjjdhaikbdaaa
open Go Go.RowKit
set_option linter.unusedVariables false
set_option linter.unusedSimpArgs false
open Frame (packN packN_length packN_B8)

namespace AF
def Log.readGo (A : FS) (dir : ByteArray) (lo hi : Nat) : List Part → List (List Nat) → Except Nat (List (List Nat))
  | [], out => .ok out
  | p :: ps, out => if hi ≤ p.base ∨ lo = hi then .ok out else if p.count = 0 then Log.readGo A dir lo hi ps out else
    match A.read dir (sgN p.base) with
    | .error e => .error e
    | .ok bs => if (goodN bs).length < p.count then .error 70 else Log.readGo A dir lo hi ps (out ++ ((goodN bs).take (min (hi - p.base) p.count)).drop (lo - p.base))
/-- From where on it is read. -/
def Log.from_ (L : Log) (lo : Nat) : Nat := L.parts.findIdx fun p => decide (lo < p.base + p.count)
def Log.read (L : Log) (A : FS) (lo hi : Int) : Except Nat (List (List Nat)) :=
  if lo < 0 ∨ hi < lo ∨ (L.fin : Int) < hi then .error 101 else Log.readGo A L.dir lo.toNat hi.toNat (L.parts.drop (L.from_ lo.toNat)) []
end AF

theorem VPtr {h : Heap} {F : List HProp} {b : Nat} {c : Array Value} {e : TypeId} {fr : Nat × Nat} {x : Nat} {K : Option Addr → Prop} (H : sat (pt b (.cells c e fr) :: F) h) (hv : c[0]? = some (ptrV x)) (hK : K (some ⟨x, 0, none⟩)) :
    Ld h ⟨b, 0, none⟩ fun v => DP v K := LdV (v := ptrV x) H.get hv ⟨_, rfl, hK⟩
theorem VInt {h : Heap} {F : List HProp} {b : Nat} {c : Array Value} {e : TypeId} {fr : Nat × Nat} {k : IntKind} {x : Int} {K : Int → Prop} (H : sat (pt b (.cells c e fr) :: F) h) (hv : c[0]? = some (.int k x)) (hK : K x) :
    Ld h ⟨b, 0, none⟩ fun v => DI k v K := LdV (v := .int k x) H.get hv ⟨_, rfl, hK⟩
theorem CInt {h : Heap} {a : Addr} {k : IntKind} {x : Int} {K : Int → Prop} (hv : cellAt h a = some (.int k x)) (hK : K x) : Ld h a fun v => DI k v K := ⟨_, hv, _, rfl, hK⟩
theorem RdC.subN {h : Heap} {a : Option Addr} {xs : List Value} (H : RdC h a xs) (lo n mx sz : Nat) (hn : mx = lo → n = 0) : RdC h (subA a lo mx sz) ((xs.drop (lo * sz)).take n) := by
  unfold subA
  split
  · rename_i e
    rw [hn e, List.take_zero]
    cases a with
    | none => rfl
    | some a => intro j v hv; cases hv
  · cases a with
    | none =>
      have : xs = [] := H
      subst this
      simp [RdC]
    | some a =>
      intro j v hv
      rw [List.getElem?_take] at hv
      split at hv
      · rw [List.getElem?_drop] at hv
        have := H _ _ hv
        show cellAt h ((a.add (lo * sz)).add j) = some v
        rw [addr_add_add]
        exact this
      · cases hv
theorem partsC_drop (ps : List AF.Part) : ∀ k : Nat, (partsC ps).drop (k * 3) = partsC (ps.drop k) := by
  induction ps with
  | nil => intro k; simp [partsC]
  | cons p ps ih =>
    intro k
    cases k with
    | zero => rw [Nat.zero_mul, List.drop_zero, List.drop_zero]
    | succ k =>
      rw [show (k + 1) * 3 = k * 3 + 3 by omega, partsC_cons, List.drop_succ_cons]
      exact ih k
/-- A segment's cells, at an index. -/
theorem IdxPart {a : Option Addr} {ps : List AF.Part} {l i : Nat} {p : AF.Part} {h : Heap} {K : Addr → Prop} (H : RdC h a (partsC ps)) (hl : ps.length = l) (hi : ps[i]? = some p)
    (hK : ∀ b, cellAt h (b.add 0) = some (.int .i64 (p.base : Int)) → cellAt h (b.add 1) = some (.int .i64 (p.count : Int)) → cellAt h (b.add 2) = some (.int .i64 (p.size : Int)) → K b) : IdxA a l (i : Int) 3 K := by
  obtain ⟨g0, g1, g2⟩ := partsC_get hi
  obtain ⟨b, hb, c0⟩ := H.nilOr g0
  have := (List.getElem?_eq_some_iff.1 hi).1
  subst hb
  refine ⟨b, rfl, by omega, by omega, ?_⟩
  rw [Int.toNat_natCast]
  refine hK _ ?_ ?_ ?_
  · rw [addr_add_add]; exact H _ _ g0
  · rw [addr_add_add]; exact H _ _ g1
  · rw [addr_add_add]; exact H _ _ g2
/-- Some parts among parts. -/
theorem sat.pickSub {α β : Type} {E : α → β → HProp} {xs : List α} {ys : List β} {F : List HProp} {h : Heap} (hl : xs.length = ys.length) (lo n : Nat) (H : sat (List.zipWith E xs ys ++ F) h) :
    sat (List.zipWith E ((xs.drop lo).take n) ((ys.drop lo).take n) ++ F) h := by
  have e : List.zipWith E ((xs.drop lo).take n) ((ys.drop lo).take n) = ((List.zipWith E xs ys).drop lo).take n := by
    rw [← List.take_zipWith, ← List.drop_zipWith]
  rw [e]
  have e2 : List.zipWith E xs ys = (List.zipWith E xs ys).take lo ++ (((List.zipWith E xs ys).drop lo).take n ++ ((List.zipWith E xs ys).drop lo).drop n) := by
    rw [List.take_append_drop, List.take_append_drop]
  rw [e2] at H
  generalize (List.zipWith E xs ys).take lo = L1 at H
  generalize ((List.zipWith E xs ys).drop lo).take n = L2 at H ⊢
  generalize ((List.zipWith E xs ys).drop lo).drop n = L3 at H
  rw [List.append_assoc] at H
  have H2 : sat ((L2 ++ L3) ++ F) h := H.shut.drop
  rw [List.append_assoc] at H2
  have H3 : sat (Many L2 :: (L3 ++ F)) h := H2.shut
  have H4 : sat (Many L3 :: F ++ [Many L2]) h := by
    obtain ⟨r, hr, hs⟩ := H3
    have : star ([Many L2] ++ (L3 ++ F)) r := hr
    have h2 := sep_comm (star_append.1 this)
    obtain ⟨r1, r2, hd, rfl, ⟨q1, q2, hd2, rfl, h3, h4⟩, h5⟩ : sep (sep (star L3) (star F)) (star [Many L2]) r := sep_mono (fun _ h => star_append.1 h) (fun _ h => h) h2
    refine ⟨_, ?_, hs⟩
    show star ((Many L3 :: F) ++ [Many L2]) _
    exact star_append.2 ⟨_, r2, hd, rfl, ⟨q1, q2, hd2, rfl, h3, h4⟩, h5⟩
  have H5 : sat (F ++ [Many L2]) h := H4.drop
  obtain ⟨r, hr, hs⟩ := H5
  have h6 := sep_comm (star_append.1 hr)
  have H7 : sat (Many L2 :: F) h := ⟨r, sep_mono (fun r h => by
    obtain ⟨r1, r2, hd, rfl, h1, h2⟩ := h
    have e : union r1 r2 = r1 := by
      funext b
      unfold union
      cases hb : r1 b with
      | some x => rfl
      | none => exact h2 b
    rw [e]
    exact h1) (fun _ h => h) h6, hs⟩
  exact H7.open

section
variable {lb fb : Nat} {L : AF.Log} {A : AF.FS} {F : List HProp} {h : Heap} {k : Nat}
theorem F105_spec {b0 b1 : Nat} {e0 e1 : TypeId} {i lo : Nat} {p : AF.Part} {a : Option Addr} {c : Nat} (S : L.Small k) (hp : L.parts[i]? = some p)
    (H : sat (pt b0 (.cells #[ptrV lb] e0 (0, 0)) :: pt b1 (.cells #[.int .i64 (lo : Int)] e1 (0, 0)) :: pt lb (.cells (logC fb L a c) 134 (0, 0)) :: ownS 141 3 a L.parts.length c (partsC L.parts) :: F) h) :
    CallsH Try.prog 105 [.int .i64 (i : Int), ptrV b0, ptrV b1] h fun v h' => v = .bool (decide (lo < p.base + p.count)) ∧ h' = h := by
  refine F105b_ok (c0 := ⟨b0, 0, none⟩) (c1 := ⟨b1, 0, none⟩) ?_
  unfold F105b
  have hpe := S.each p (List.mem_of_getElem? hp)
  have hfew := S.few
  have hr := ownS_read (H.mv 3)
  refine VPtr H rfl ?_
  rw [NN'_some']
  refine LdSl (a := a) (l := L.parts.length) (m := c) (H.mv 2) rfl ?_
  refine IdxPart hr rfl hp fun b d0 d1 d2 => CInt d0 ?_
  refine VPtr H rfl ?_
  rw [NN'_some']
  refine LdSl (a := a) (l := L.parts.length) (m := c) (H.mv 2) rfl ?_
  refine IdxPart hr rfl hp fun b d0 d1 d2 => CInt d1 ?_
  refine VInt (x := (lo : Int)) (H.mv 1) rfl ?_
  rw [IntWalk.i64_in _ (by omega)]
  refine ⟨?_, rfl⟩
  congr 1
  by_cases hlt : lo < p.base + p.count
  · rw [decide_eq_true hlt, decide_eq_true (by omega)]
  · rw [decide_eq_false hlt, decide_eq_false (by omega)]
end

end Go.Proofs.Yticjjdhaikbdaaa

namespace Go.Proofs.Yticjjdhaikbdaaa
open Go Go.RowKit
set_option linter.unusedVariables false
set_option linter.unusedSimpArgs false
open Frame (packN packN_length packN_B8 reach)

theorem joinMid {A : HProp} {L K M : List HProp} {h : Heap} (H : sat (A :: (L ++ Many K :: M)) h) : sat (A :: ((L ++ K) ++ M)) h := by
  obtain ⟨r, hr, hs⟩ := H
  refine ⟨r, sep_mono (fun _ h => h) (fun q hq => ?_) hr, hs⟩
  have h1 : sep (star L) (sep (star K) (star M)) q := star_append.1 hq
  have h2 := sep_assoc' h1
  exact star_append.2 (sep_mono (fun _ h => star_append.2 h) (fun _ h => h) h2)
/-- Some of the records behind others. -/
theorem appendSub {ra oa : Option Addr} {rl rc ol oc : Nat} {recs out : List (List Nat)} {G : List HProp} {h : Heap} {K : Value → Heap → Prop} (H : sat (ownL EbO 31 ra rl rc recs :: ownL EbO 31 oa ol oc out :: G) h) (lo z : Nat) (hlo : lo ≤ z) (hz : z ≤ recs.length)
    (hb : (ol + (z - lo)) * 24 ≤ 140737488355328) (hK : ∀ a' c' h', sat (ownL EbO 31 a' (ol + (z - lo)) c' (out ++ (recs.take z).drop lo) :: G) h' → K (.slice a' (ol + (z - lo)) c') h') :
    RunH Try.prog (Builtin.append_ #[74, 74] 74 #[.slice oa ol oc, .slice (subA ra lo z 1) (z - lo) (z - lo)]) h K := by
  obtain ⟨rvs, hrl, H2⟩ := ownL_open H
  have hr := (ownS_read H2).sub lo (z - lo) z (by omega)
  have hlen : ((rvs.drop lo).take (z - lo)).length = (z - lo) * 1 := by
    rw [List.length_take, List.length_drop, hrl]
    omega
  have H3 := sat.pickSub hrl.symm lo (z - lo) H2.drop
  have H4 : sat (ownL EbO 31 oa ol oc out :: Many (List.zipWith EbO ((recs.drop lo).take (z - lo)) ((rvs.drop lo).take (z - lo))) :: G) h := H3.shut.mv 1
  obtain ⟨ovs, hol, H5⟩ := ownL_open H4
  have h1 : ∀ u ∈ (rvs.drop lo).take (z - lo), u.oneCell' = true := by
    intro u hu
    obtain ⟨j, hj⟩ := List.getElem?_of_mem hu
    obtain ⟨x, hx⟩ : ∃ x, ((recs.drop lo).take (z - lo))[j]? = some x := by
      have := (List.getElem?_eq_some_iff.1 hj).1
      exact ⟨_, List.getElem?_eq_getElem (by rw [hlen] at this; rw [List.length_take, List.length_drop]; omega)⟩
    obtain ⟨r, H6⟩ := sat.pick H3 (A := EbO x u) (k := j) (by rw [List.getElem?_append_left (by have := (List.getElem?_eq_some_iff.1 hj).1; have h2 := (List.getElem?_eq_some_iff.1 hx).1; rw [List.length_zipWith]; omega), List.getElem?_zipWith, hx, hj])
    obtain ⟨a, l, c, rfl, _⟩ := EbO_get H6
    rfl
  refine append1 u74 src74 inf31 H5 (srcOf_slice hr hlen) h1 hb fun a' c' h' _ H6 => hK a' c' h' ?_
  have H7 := joinMid H6
  rw [← List.zipWith_append hol.symm] at H7
  have e : (recs.take z).drop lo = (recs.drop lo).take (z - lo) := List.drop_take
  rw [e]
  refine ownL_shut ?_ H7
  rw [List.length_append, List.length_append, hol, hlen, List.length_take, List.length_drop]
  omega
def ReadOut (lb fb : Nat) (L : AF.Log) (A : AF.FS) (r : Except Nat (List (List Nat))) (F : List HProp) (v : Value) (h' : Heap) : Prop :=
  (∃ (out : List (List Nat)) (a : Option Addr) (c : Nat), r = .ok out ∧ v = .tuple #[.slice a out.length c, .int .i64 0] ∧ sat (ownL EbO 31 a out.length c out :: logP lb fb L :: fsP fb A :: F) h') ∨
  (∃ e : Nat, r = .error e ∧ e ≠ 0 ∧ v = .tuple #[.slice none 0 0, .int .i64 (e : Int)] ∧ sat (logP lb fb L :: fsP fb A :: F) h')
theorem goodN_reach {bs : List Nat} (h8 : B8 bs) : 8 * (goodN bs).length ≤ bs.length := by
  have h1 : (goodN bs).length ≤ (Frame.scanN bs).length := (List.takeWhile_sublist _).length_le
  have h2 : reach (Frame.scanN bs) ≤ bs.length := by
    have : ∀ (n : Nat) (x : List Nat), x.length ≤ n → B8 x → reach (Frame.scanN x) ≤ x.length := by
      intro n
      induction n with
      | zero =>
        intro x hx h8
        have : x = [] := List.eq_nil_of_length_eq_zero (by omega)
        subst this
        rw [Frame.scanN_nil]
        exact Nat.le_refl _
      | succ n ih =>
        intro x hx h8
        rw [Frame.scanN_eq]
        cases hf : Frame.firstN x with
        | none => exact Nat.zero_le _
        | some y =>
          obtain ⟨_, _, h3, _, _, _⟩ := Frame.firstN_some h8 hf
          have := ih (x.drop (8 + y.length)) (by rw [List.length_drop]; omega) (h8.drop _)
          rw [List.length_drop] at this
          show (8 + y.length) + reach (Frame.scanN (x.drop (8 + y.length))) ≤ _
          omega
    exact this _ bs (Nat.le_refl _) h8
  have h3 := scan_count bs h8 (Frame.scanN bs).length (Frame.scanN bs) rfl h2
  omega
section
variable {lb fb : Nat} {L : AF.Log} {A : AF.FS} {F : List HProp} {h : Heap} {k : Nat}
theorem from_eq {lo n : Nat} (hk : n ≤ L.parts.length) (h1 : ∀ i, i < n → ∀ p, L.parts[i]? = some p → ¬ lo < p.base + p.count) (h2 : ∀ i, n ≤ i → ∀ p, L.parts[i]? = some p → lo < p.base + p.count) : L.from_ lo = n := by
  unfold AF.Log.from_
  by_cases hn : n < L.parts.length
  · rw [List.findIdx_eq hn]
    refine ⟨decide_eq_true (h2 n (Nat.le_refl _) _ (List.getElem?_eq_getElem hn)), fun j hj => decide_eq_false (h1 j hj _ (List.getElem?_eq_getElem (by omega)))⟩
  · have : n = L.parts.length := by omega
    subst this
    rw [List.findIdx_eq_length]
    intro p hp
    obtain ⟨i, hi⟩ := List.getElem?_of_mem hp
    have := h1 i (List.getElem?_eq_some_iff.1 hi).1 p hi
    simpa using this
theorem F51_spec {lo hi : Int} (W : A.WF) (S : L.Small k) (U : L.Up) (H : sat (logP lb fb L :: fsP fb A :: F) h) :
    CallsH Try.prog 51 [ptrV lb, .int .i64 lo, .int .i64 hi] h (ReadOut lb fb L A (L.read A lo hi) F) := by
  apply F51b_ok
  unfold F51b
  obtain ⟨a, c, H0⟩ := logP_open H
  refine Al_sat H0 fun b0 h1 H1 => Al_sat H1 fun b1 h2 H2 => ?_
  -- b1, b0, lb, parts, fsP, F
  have hfew := S.few
  have hmany := S.many
  have hfin := S.fin
  refine VPtr (x := lb) (H2.mv 1) rfl ?_
  rw [show (some (⟨lb, 0, none⟩ : Addr)).isNone = false from rfl, cond_false]
  refine VInt (x := lo) H2 rfl ?_
  have bad : lo < 0 ∨ hi < lo ∨ (L.fin : Int) < hi → ReadOut lb fb L A (L.read A lo hi) F (.tuple #[.slice none 0 0, .int .i64 101]) h2 := by
    intro hb
    refine .inr ⟨101, ?_, by decide, rfl, logP_shut (H2.ordT 5 [2, 3, 4])⟩
    unfold AF.Log.read
    rw [if_pos hb]
  by_cases h1 : lo < 0
  · rw [decide_eq_true h1, cond_true]
    exact bad (.inl h1)
  rw [decide_eq_false h1, cond_false]
  refine VInt (x := lo) H2 rfl ?_
  by_cases h2' : hi < lo
  · rw [decide_eq_true h2', cond_true]
    exact bad (.inr (.inl h2'))
  rw [decide_eq_false h2', cond_false]
  refine VPtr (x := lb) (H2.mv 1) rfl ?_
  simp only [NN'_some']
  refine LdInt (x := (L.fin : Int)) (H2.mv 2) rfl ?_
  by_cases h3 : (L.fin : Int) < hi
  · rw [decide_eq_true (show hi > (L.fin : Int) from h3), cond_true]
    exact bad (.inr (.inr h3))
  rw [decide_eq_false (show ¬ hi > (L.fin : Int) from h3), cond_false]
  obtain ⟨lo, rfl⟩ : ∃ n : Nat, lo = (n : Int) := ⟨lo.toNat, by omega⟩
  obtain ⟨hi, rfl⟩ : ∃ n : Nat, hi = (n : Int) := ⟨hi.toNat, by omega⟩
  have eread : L.read A (lo : Int) (hi : Int) = AF.Log.readGo A L.dir lo hi (L.parts.drop (L.from_ lo)) [] := by
    unfold AF.Log.read
    rw [if_neg (by rintro (h | h | h) <;> omega), Int.toNat_natCast, Int.toNat_natCast]
  clear bad
  refine VPtr (x := lb) (H2.mv 1) rfl ?_
  rw [NN'_some']
  refine LdSl (a := a) (l := L.parts.length) (m := c) (H2.mv 2) rfl ?_
  let p : Nat → Bool := fun i => match L.parts[i]? with
    | some q => decide (lo < q.base + q.count)
    | none => false
  have hord := H2.ordT 5 [1, 0, 2, 3, 4]
  refine (F104_spec (h := h2) p (n := L.parts.length) (by omega) ?_ ?_).mono ?_
  · intro i hi
    obtain ⟨q, hq⟩ : ∃ q, L.parts[i]? = some q := ⟨_, List.getElem?_eq_getElem hi⟩
    refine CallF_fn (first := #[]) (cap := #[ptrV b0, ptrV b1]) ?_
    refine (F105_spec (fb := fb) (a := a) (c := c) S hq hord).mono ?_
    rintro v h3 ⟨rfl, rfl⟩
    refine ⟨?_, rfl⟩
    show Value.bool _ = Value.bool (match L.parts[i]? with
      | some q => decide (lo < q.base + q.count)
      | none => false)
    rw [hq]
  · intro i j hij hj hpi
    obtain ⟨q, hq⟩ : ∃ q, L.parts[j]? = some q := ⟨_, List.getElem?_eq_getElem hj⟩
    obtain ⟨q', hq'⟩ : ∃ q, L.parts[i]? = some q := ⟨_, List.getElem?_eq_getElem (by omega)⟩
    simp only [p, hq'] at hpi
    simp only [p, hq]
    rcases Nat.lt_or_eq_of_le hij with hlt | rfl
    · have hi' := (List.getElem?_eq_some_iff.1 hq')
      have hj' := (List.getElem?_eq_some_iff.1 hq)
      have := List.pairwise_iff_getElem.1 U.rise i j hi'.1 hj'.1 hlt
      rw [hi'.2, hj'.2] at this
      have := of_decide_eq_true hpi
      exact decide_eq_true (by omega)
    · rw [hq] at hq'
      cases hq'
      exact hpi
  rintro v h3 ⟨rfl, kk, hkk, rfl, hfalse, htrue⟩
  rw [DI_int]
  have efrom : L.from_ lo = kk := from_eq hkk (fun i hi q hq => by
    have := hfalse i hi
    simp only [p, hq] at this
    exact of_decide_eq_false this) (fun i hi q hq => by
    have := htrue i hi (List.getElem?_eq_some_iff.1 hq).1
    simp only [p, hq] at this
    exact of_decide_eq_true this)
  rw [efrom] at eread
  have hends : ∀ q ∈ L.parts.drop kk, lo < q.base + q.count := by
    intro q hq
    obtain ⟨i, hi⟩ := List.getElem?_of_mem hq
    rw [List.getElem?_drop] at hi
    have := htrue (kk + i) (by omega) (List.getElem?_eq_some_iff.1 hi).1
    simp only [p, hi] at this
    exact of_decide_eq_true this
  clear hfalse htrue efrom
  clear_value p
  refine VPtr (x := lb) (H2.mv 1) rfl ?_
  rw [NN'_some']
  refine LdSl (a := a) (l := L.parts.length) (m := c) (H2.mv 2) rfl ?_
  have hlc := (ownS_len (H2.mv 3)).2.1
  refine SlV_nat hkk hlc (Nat.le_refl _) ?_
  have rdP : ∀ h', RdC h' a (partsC L.parts) → RdC h' (subA a kk c 3) (partsC (L.parts.drop kk)) := by
    intro h' hr
    have := hr.subN kk ((L.parts.length - kk) * 3) c 3 (by omega)
    rw [partsC_drop, List.take_of_length_le (by rw [partsC_length, List.length_drop]; omega)] at this
    exact this
  generalize hps : L.parts.drop kk = ps at eread hends rdP
  have hpl : ps.length = L.parts.length - kk := by rw [← hps, List.length_drop]
  have hpe : ∀ q ∈ ps, q.base ≤ k * 16777216 ∧ q.count ≤ k * 16777216 ∧ q.size ≤ k * 16777216 := fun q hq => S.each q (List.drop_subset kk _ (hps ▸ hq))
  rw [eread]
  have K0 := (ownL_nil EbO 31 hord).mv 5
  refine ⟨fun st hh => ∃ (i : Nat) (out : List (List Nat)) (oa : Option Addr) (oc : Nat), st = (⟨oa, out.length, oc⟩, (i : Int)) ∧ i ≤ ps.length ∧ out.length ≤ i * 2097152 ∧ AF.Log.readGo A L.dir lo hi ps [] = AF.Log.readGo A L.dir lo hi (ps.drop i) out ∧
      sat (fsP fb A :: ownL EbO 31 oa out.length oc out :: pt b0 (.cells #[ptrV lb] 69 (0, 0)) :: pt b1 (.cells #[.int .i64 (lo : Int)] 2 (0, 0)) :: pt lb (.cells (logC fb L a c) 134 (0, 0)) :: ownS 141 3 a L.parts.length c (partsC L.parts) :: F) hh,
    fun st _ => ((ps.length : Int) - st.2).toNat, ⟨0, [], none, 0, rfl, Nat.zero_le _, Nat.zero_le _, rfl, K0⟩, ?_⟩
  rintro st h4 ⟨i, out, oa, oc, rfl, hi', hol, heq, H4⟩
  rw [heq]
  dsimp only
  have fin : ∀ h', sat (fsP fb A :: ownL EbO 31 oa out.length oc out :: pt b0 (.cells #[ptrV lb] 69 (0, 0)) :: pt b1 (.cells #[.int .i64 (lo : Int)] 2 (0, 0)) :: pt lb (.cells (logC fb L a c) 134 (0, 0)) :: ownS 141 3 a L.parts.length c (partsC L.parts) :: F) h' →
      AF.Log.readGo A L.dir lo hi (ps.drop i) out = .ok out → ReadOut lb fb L A (AF.Log.readGo A L.dir lo hi (ps.drop i) out) F (.tuple #[.slice oa out.length oc, .int .i64 0]) h' := by
    intro h' H' e
    exact .inl ⟨out, oa, oc, e, rfl, (logP_shut (H'.ordT 6 [4, 5, 1, 0])).mv 1⟩
  rw [← hpl]
  by_cases hlt : i < ps.length
  · rw [decide_eq_true (show ((i : Int) < (ps.length : Int)) by omega), cond_true]
    obtain ⟨q, hq⟩ : ∃ q, ps[i]? = some q := ⟨_, List.getElem?_eq_getElem hlt⟩
    have hqm := List.mem_of_getElem? hq
    have hqe := hpe q hqm
    have hqlo := hends q hqm
    have hdrop : ps.drop i = q :: ps.drop (i + 1) := by
      have h5 := (List.getElem?_eq_some_iff.1 hq)
      rw [List.drop_eq_getElem_cons h5.1, h5.2]
    refine IdxPart (rdP h4 (ownS_read (H4.mv 5))) rfl hq fun ba d0 d1 d2 => ⟨_, d0, _, d1, _, d2, _, _, _, rfl, ?_⟩
    refine Al_sat H4 fun b2 h5 H5 => ?_
    refine StCC (c' := #[.int .i64 (q.base : Int), .int .i64 0, .int .i64 0]) H5 (by show 0 < 3; decide) rfl fun h6 H6 => ?_
    refine StCC (c' := #[.int .i64 (q.base : Int), .int .i64 (q.count : Int), .int .i64 0]) H6 (by show 1 < 3; decide) rfl fun h7 H7 => ?_
    refine StCC (c' := #[.int .i64 (q.base : Int), .int .i64 (q.count : Int), .int .i64 (q.size : Int)]) H7 (by show 2 < 3; decide) rfl fun h8 H8 => ?_
    -- b2, fsP, out, b0, b1, lb, parts, F
    refine LdInt (x := (q.base : Int)) H8 rfl ?_
    by_cases c1 : hi ≤ q.base
    · rw [decide_eq_true (show ((q.base : Int) ≥ (hi : Int)) by omega), cond_true]
      refine fin h8 H8.drop ?_
      rw [hdrop, AF.Log.readGo, if_pos (.inl c1)]
    rw [decide_eq_false (show ¬ ((q.base : Int) ≥ (hi : Int)) by omega), cond_false]
    refine VInt (x := (lo : Int)) (H8.mv 4) rfl ?_
    by_cases c2 : lo = hi
    · rw [show (((lo : Nat) : Int) == (hi : Int)) = true by rw [c2]; exact beq_self_eq_true _, cond_true]
      refine fin h8 H8.drop ?_
      rw [hdrop, AF.Log.readGo, if_pos (.inr c2)]
    rw [show (((lo : Nat) : Int) == (hi : Int)) = false by rw [beq_eq_false_iff_ne]; omega, cond_false]
    refine LdInt (x := (q.count : Int)) H8 rfl ?_
    have wi : IntKind.wrap .i64 ((i : Int) + 1) = ((i + 1 : Nat) : Int) := wrap64_succ (by omega)
    by_cases c3 : q.count = 0
    · rw [show (((q.count : Nat) : Int) == 0) = true by rw [c3]; rfl, cond_true, wi]
      refine ⟨⟨i + 1, out, oa, oc, rfl, by omega, Nat.le_trans hol (Nat.mul_le_mul_right _ (Nat.le_succ i)), ?_, H8.drop⟩, by omega⟩
      rw [hdrop, AF.Log.readGo, if_neg (by rintro (h | h) <;> omega), if_pos c3]
    rw [show (((q.count : Nat) : Int) == 0) = false by rw [beq_eq_false_iff_ne]; omega, cond_false]
    refine VPtr (x := lb) (H8.mv 3) rfl ?_
    rw [NN'_some']
    refine LdPtr (x := fb) (H8.mv 5) rfl ?_
    refine VPtr (x := lb) (H8.mv 3) rfl ?_
    rw [NN'_some']
    refine LdStr (H8.mv 5) rfl ?_
    refine LdInt (x := (q.base : Int)) H8 rfl ?_
    refine (F103_spec (by omega) H8).mono ?_
    rintro v h9 ⟨rfl, H9⟩
    rw [DS_string]
    refine ⟨VPtr (x := lb) (H9.mv 3) rfl rfl, rfl, rfl, LdPtr (x := fb) (H9.mv 5) rfl rfl, VPtr (x := lb) (H9.mv 3) rfl rfl, rfl, rfl, LdStr (H9.mv 5) rfl rfl, ?_⟩
    refine (F25_spec W S.dir (by rw [AF.sgN_size]; decide) (H9.mv 1)).mono ?_
    rintro v h10 (⟨bs, xa, xc, hrd, hb8, hbl, rfl, H10⟩ | ⟨e, hrd, e0, rfl, H10⟩)
    · refine ⟨xa, bs.length, xc, 0, rfl, ?_⟩
      rw [show ((0 : Int) != 0) = false from rfl, cond_false]
      -- bs, fsP, b2, out, b0, b1, lb, parts, F
      refine (F106_spec (x := bs) H10 (fun h' hh => ownS_read hh) hb8 rfl (by omega)).mono ?_
      rintro v h11 ⟨ra, rc, rfl, H11⟩
      refine ⟨ra, (goodN bs).length, rc, _, rfl, ?_⟩
      have hgl := goodN_reach hb8
      refine LdInt (x := (q.count : Int)) (H11.mv 3) rfl ?_
      by_cases c4 : (goodN bs).length < q.count
      · rw [decide_eq_true (show (((goodN bs).length : Int) < (q.count : Int)) by omega), cond_true]
        refine .inr ⟨70, ?_, by decide, rfl, logP_shut (H11.ordT 9 [7, 8, 2])⟩
        rw [hdrop, AF.Log.readGo, if_neg (by rintro (h | h) <;> omega), if_neg c3, hrd]
        simp only [c4, if_true]
      rw [decide_eq_false (show ¬ (((goodN bs).length : Int) < (q.count : Int)) by omega), cond_false]
      refine VInt (x := (lo : Int)) (H11.mv 6) rfl ?_
      refine LdInt (x := (q.base : Int)) (H11.mv 3) rfl ?_
      refine LdInt (x := (q.base : Int)) (H11.mv 3) rfl ?_
      refine LdInt (x := (q.count : Int)) (H11.mv 3) rfl ?_
      have wa : (if (0 : Int) > IntKind.wrap .i64 ((lo : Int) - (q.base : Int)) then 0 else IntKind.wrap .i64 ((lo : Int) - (q.base : Int))) = ((lo - q.base : Nat) : Int) := by
        rw [IntWalk.i64_in _ (by omega)]
        split <;> omega
      have wz : (if (q.count : Int) < IntKind.wrap .i64 ((hi : Int) - (q.base : Int)) then (q.count : Int) else IntKind.wrap .i64 ((hi : Int) - (q.base : Int))) = ((min (hi - q.base) q.count : Nat) : Int) := by
        rw [IntWalk.i64_in _ (by omega)]
        split <;> omega
      rw [wa, wz]
      have hrc := (ownL_len H11).2.1
      refine SlV_nat (lo := lo - q.base) (hi := min (hi - q.base) q.count) (mx := min (hi - q.base) q.count) (by omega) (Nat.le_refl _) (by omega) ?_
      refine appendSub (H11.ordT 9 [0, 4, 2, 5, 6, 7, 8]) (lo - q.base) (min (hi - q.base) q.count) (by omega) (by omega) (by omega) fun a' c' h12 H12 => ?_
      rw [DSl_slice, wi]
      have hlen : (out ++ ((goodN bs).take (min (hi - q.base) q.count)).drop (lo - q.base)).length = out.length + (min (hi - q.base) q.count - (lo - q.base)) := by
        rw [List.length_append, List.length_drop, List.length_take, Nat.min_eq_left (show min (hi - q.base) q.count ≤ (goodN bs).length by omega)]
      refine ⟨⟨i + 1, out ++ ((goodN bs).take (min (hi - q.base) q.count)).drop (lo - q.base), a', c', by rw [hlen], by omega, by rw [hlen]; omega, ?_, ?_⟩, by omega⟩
      · rw [hdrop, AF.Log.readGo, if_neg (by rintro (h | h) <;> omega), if_neg c3, hrd]
        simp only [c4, if_false]
      · rw [hlen]
        exact H12.mv 1
    · refine ⟨none, 0, 0, (e : Int), rfl, ?_⟩
      rw [err_bne e0, cond_true]
      refine .inr ⟨e, ?_, e0, rfl, logP_shut (H10.ordT 7 [5, 6, 0])⟩
      rw [hdrop, AF.Log.readGo, if_neg (by rintro (h | h) <;> omega), if_neg c3, hrd]
  · rw [decide_eq_false (by omega), cond_false]
    have ei : i = ps.length := by omega
    refine fin h4 H4 ?_
    rw [ei, List.drop_length]
    rfl
end

end Go.Proofs.Yticjjdhaikbdaaa

namespace Go.Proofs.Yticjjdhaikbdaaa
open Go Go.RowKit
set_option linter.unusedVariables false
set_option linter.unusedSimpArgs false
open Frame (packN packN_length packN_B8 scanN reach)
open Hex (digs hexd)

theorem hexd_right {x : Nat} (h : x < 16) : (decide (97 ≤ hexd x) && decide (hexd x ≤ 122) || (decide (48 ≤ hexd x) && decide (hexd x ≤ 57)) || decide (hexd x = 46)) = true := by
  have : ∀ x : Fin 16, (decide (97 ≤ hexd x.val) && decide (hexd x.val ≤ 122) || (decide (48 ≤ hexd x.val) && decide (hexd x.val ≤ 57)) || decide (hexd x.val = 46)) = true := by decide
  exact this ⟨x, h⟩
theorem digs_mem : ∀ (k m c : Nat), c ∈ digs k m → ∃ x, x < 16 ∧ c = hexd x
  | 0, m, c, h => by cases h
  | k + 1, m, c, h => by
    rw [digs] at h
    rcases List.mem_cons.1 h with rfl | h
    · exact ⟨_, Nat.mod_lt _ (by decide), rfl⟩
    · exact digs_mem k m c h
namespace AF
theorem sgN_right (n : Nat) : right (sgN n) = true := by
  unfold right
  rw [sgN_size]
  have : (sgN n).data.toList.all (fun c => (decide (97 ≤ c.toNat) && decide (c.toNat ≤ 122)) || (decide (48 ≤ c.toNat) && decide (c.toNat ≤ 57)) || decide (c.toNat = 46)) = true := by
    rw [List.all_eq_true]
    intro c hc
    have e : sb (sgN n) = [115, 46] ++ digs 16 n := by
      unfold sgN
      rw [sb_append, sb_ofN (Hex.digs_B8 16 n)]
      rfl
    have hm : c.toNat ∈ sb (sgN n) := List.mem_map.2 ⟨c, hc, rfl⟩
    rw [e] at hm
    rcases List.mem_append.1 hm with h | h
    · have : c.toNat = 115 ∨ c.toNat = 46 := by simpa using h
      rcases this with h | h <;> rw [h] <;> decide
    · obtain ⟨x, hx, hc⟩ := digs_mem 16 n _ h
      rw [hc]
      exact hexd_right hx
  rw [this]
  rfl
theorem sgN_lt {a b : Nat} (ha : a < 18446744073709551616) (hb : b < 18446744073709551616) : ltB (sgN a) (sgN b) = decide (a < b) := by
  rw [← Hex.hex_lt ha hb, strLt_eq]
  unfold ltB sgN
  have e : ∀ x : ByteArray, ((⟨#[115, 46]⟩ : ByteArray) ++ x).data.toList = 115 :: 46 :: x.data.toList := by
    intro x
    rw [ByteArray.data_append, Array.toList_append]
    rfl
  rw [e, e]
  have : (115 :: 46 :: (ofN (digs 16 a)).data.toList < 115 :: 46 :: (ofN (digs 16 b)).data.toList) ↔ ((ofN (digs 16 a)).data.toList < (ofN (digs 16 b)).data.toList) := by
    simp only [List.cons_lt_cons_self]
  by_cases h : (ofN (digs 16 a)).data.toList < (ofN (digs 16 b)).data.toList
  · rw [decide_eq_true h, decide_eq_true (this.2 h)]
  · rw [decide_eq_false h, decide_eq_false (fun hh => h (this.1 hh))]
theorem ins_end {n : ByteArray} {f : Nat} : ∀ {l : Names}, (∀ p ∈ l, ltB p.1 n = true) → ins n f l = l ++ [(n, f)]
  | [], _ => rfl
  | p :: l, h => by
    have h1 := h p (by simp)
    have h2 : p.1 ≠ n := fun e => by rw [e] at h1; exact strLt_irrefl _ h1
    have h3 : ¬ ltB n p.1 = true := fun e => strLt_irrefl _ (strLt_trans e h1)
    rw [ins, if_neg h2, if_neg h3, ins_end fun q hq => h q (by simp [hq])]
    rfl
def pN : ByteArray := ⟨#[112]⟩
def body (g : List (List Nat)) : List Nat := (g.map packN).flatten
def partsOf : Nat → List (List (List Nat)) → List Part
  | _, [] => []
  | b, g :: gs => ⟨b, g.length, (body g).length⟩ :: partsOf (b + g.length) gs
def nowOf : Nat → Nat → List (List (List Nat)) → Names
  | _, _, [] => []
  | b, i, g :: gs => (sgN b, i) :: nowOf (b + g.length) (i + 1) gs
theorem partsOf_snoc : ∀ (b : Nat) (gs : List (List (List Nat))) (g : List (List Nat)), partsOf b (gs ++ [g]) = partsOf b gs ++ [⟨b + gs.flatten.length, g.length, (body g).length⟩]
  | b, [], g => by simp [partsOf]
  | b, x :: gs, g => by simp [partsOf, partsOf_snoc (b + x.length) gs g, Nat.add_assoc]
theorem nowOf_snoc : ∀ (b i : Nat) (gs : List (List (List Nat))) (g : List (List Nat)), nowOf b i (gs ++ [g]) = nowOf b i gs ++ [(sgN (b + gs.flatten.length), i + gs.length)]
  | b, i, [], g => by simp [nowOf]
  | b, i, x :: gs, g => by simp [nowOf, nowOf_snoc (b + x.length) (i + 1) gs g, Nat.add_assoc, Nat.add_comm 1]
theorem nowOf_length : ∀ (b i : Nat) (gs : List (List (List Nat))), (nowOf b i gs).length = gs.length
  | b, i, [] => rfl
  | b, i, x :: gs => by rw [nowOf, List.length_cons, nowOf_length, List.length_cons]
theorem nowOf_idx : ∀ (b i : Nat) (gs : List (List (List Nat))), (nowOf b i gs).map (·.2) = List.range' i gs.length
  | b, i, [] => rfl
  | b, i, x :: gs => by rw [nowOf, List.map_cons, nowOf_idx, List.length_cons, List.range'_succ]
theorem nowOf_mem : ∀ (b i j : Nat) (gs : List (List (List Nat))), j < gs.length → (sgN (b + (gs.take j).flatten.length), i + j) ∈ nowOf b i gs
  | b, i, j, [], h => by simp at h
  | b, i, 0, x :: gs, h => by simp [nowOf]
  | b, i, j + 1, x :: gs, h => by
    have := nowOf_mem (b + x.length) (i + 1) j gs (by simpa using h)
    rw [nowOf, List.take_succ_cons, List.flatten_cons, List.length_append, ← Nat.add_assoc, Nat.add_comm j 1, ← Nat.add_assoc]
    exact List.mem_cons_of_mem _ this
/-- Every name's number lies ahead of the end, if no group is empty. -/
theorem nowOf_lt : ∀ (b i : Nat) (gs : List (List (List Nat))), (∀ g ∈ gs, g ≠ []) → ∀ p ∈ nowOf b i gs, ∃ n, p.1 = sgN n ∧ b ≤ n ∧ n < b + gs.flatten.length
  | b, i, [], _, p, hp => by cases hp
  | b, i, x :: gs, hne, p, hp => by
    have hx : 0 < x.length := List.length_pos_iff.2 (hne x (by simp))
    rw [nowOf] at hp
    rw [List.flatten_cons, List.length_append]
    rcases List.mem_cons.1 hp with rfl | hp
    · exact ⟨b, rfl, Nat.le_refl _, by omega⟩
    · obtain ⟨n, h1, h2, h3⟩ := nowOf_lt (b + x.length) (i + 1) gs (fun g hg => hne g (by simp [hg])) p hp
      exact ⟨n, h1, by omega, by omega⟩
structure SegInv (room : Nat) (gs : List (List (List Nat))) (A : FS) (L : Log) : Prop where
  wf : A.WF
  off : A.off = false
  fuse : A.fuse = none
  room : A.room = room
  dir : ∃ base pend, A.dirs = [⟨pN, nowOf 0 0 gs, base, pend⟩]
  files : A.files.map (·.b) = gs.map body
  ldir : L.dir = pN
  parts : L.parts = partsOf 0 gs
  fin : L.fin = gs.flatten.length
  size : 1 ≤ L.size
section
variable {room : Nat} {gs : List (List (List Nat))} {g : List (List Nat)} {A : FS} {L : Log} {b : List Nat}
theorem SegInv.ready (I : SegInv room gs A L) {ss : List ByteArray} (hs : ∀ s ∈ ss, right s = true) : A.ready pN ss = .ok 0 := by
  obtain ⟨base, pend, hd⟩ := I.dir
  exact ready_of (d := ⟨pN, nowOf 0 0 gs, base, pend⟩) I.wf I.off (i := 0) (by rw [hd]; rfl) hs
theorem SegInv.now (I : SegInv room gs A L) : (A.D 0).now = nowOf 0 0 gs := by
  obtain ⟨base, pend, hd⟩ := I.dir
  unfold FS.D
  rw [hd]
  rfl
theorem SegInv.ok (I : SegInv room gs A L) : Ok A.files.length (nowOf 0 0 gs) := by
  obtain ⟨base, pend, hd⟩ := I.dir
  exact (I.wf.each ⟨pN, nowOf 0 0 gs, base, pend⟩ (by rw [hd]; simp)).ok
theorem SegInv.of (I : SegInv room gs A L) {j : Nat} (hj : j < gs.length) : of (A.D 0).now (sgN (gs.take j).flatten.length) = some j := by
  rw [I.now]
  have := nowOf_mem 0 0 j gs hj
  rw [Nat.zero_add, Nat.zero_add] at this
  exact mem_of I.ok.up.nodup this
theorem SegInv.entry (I : SegInv room gs A L) {j : Nat} (hj : j < gs.length) : A.entry pN (sgN (gs.take j).flatten.length) = .ok (0, j) := by
  unfold FS.entry
  rw [I.ready (by intro s hs; rw [List.mem_singleton] at hs; rw [hs]; exact sgN_right _)]
  simp only [I.of hj]
theorem SegInv.file (I : SegInv room gs A L) {j : Nat} {g : List (List Nat)} (hj : gs[j]? = some g) : (A.X j).b = body g := by
  have := congrArg (fun l => l[j]?) I.files
  simp only [List.getElem?_map, hj] at this
  unfold FS.X
  rw [List.getD_eq_getElem?_getD]
  cases hf : A.files[j]? with
  | none => rw [hf] at this; cases this
  | some x => rw [hf] at this; simpa using this
theorem SegInv.read (I : SegInv room gs A L) {j : Nat} {g : List (List Nat)} (hj : gs[j]? = some g) : A.read pN (sgN (gs.take j).flatten.length) = .ok (body g) := by
  unfold FS.read
  rw [I.entry (List.getElem?_eq_some_iff.1 hj).1]
  simp only [I.file hj]
theorem SegInv.used (I : SegInv room gs A L) : A.used = (gs.map fun g => (body g).length).sum := by
  obtain ⟨base, pend, hd⟩ := I.dir
  unfold FS.used FS.idx
  rw [hd, List.flatMap_cons, List.flatMap_nil, List.append_nil]
  dsimp only
  rw [nowOf_idx]
  congr 1
  apply List.ext_getElem?
  intro j
  rw [List.getElem?_map, List.getElem?_map]
  by_cases hj : j < gs.length
  · rw [List.getElem?_range' hj]
    obtain ⟨g, hg⟩ : ∃ g, gs[j]? = some g := ⟨_, List.getElem?_eq_getElem hj⟩
    rw [hg, Option.map_some, Option.map_some, Nat.zero_add, Nat.one_mul, I.file hg]
  · rw [List.getElem?_eq_none (by rw [List.length_range']; omega), List.getElem?_eq_none (by omega)]
    rfl
theorem step_on (I : A.fuse = none) (g : FS → FS) : A.step g = (g A.stepOn, 0) := by
  unfold FS.step
  rw [if_neg (by rw [I]; simp)]
end
end AF

end Go.Proofs.Yticjjdhaikbdaaa

namespace Go.Proofs.Yticjjdhaikbdaaa
open Go Go.RowKit
set_option linter.unusedVariables false
set_option linter.unusedSimpArgs false
open Frame (packN packN_length packN_B8 scanN reach)
namespace AF
section
variable {room : Nat} {gs : List (List (List Nat))} {g : List (List Nat)} {A : FS} {L : Log} {b : List Nat}
theorem modify_map_b (fs : List File) (i : Nat) (g : File → File) (hg : ∀ y, (g y).b = y.b) : (fs.modify i g).map (·.b) = fs.map (·.b) := by
  apply List.ext_getElem?
  intro j
  rw [List.getElem?_map, get_modify, List.getElem?_map]
  cases fs[j]? with
  | none => rfl
  | some y =>
    rw [Option.map_some, Option.map_some, Option.map_some]
    split
    · rw [hg]
    · rfl
theorem SegInv.syncFile (I : SegInv room gs A L) {j : Nat} (hj : j < gs.length) : A.sync pN (sgN (gs.take j).flatten.length) = (A.stepOn.setFile j fun y => { y with safe := y.b.length }, 0) := by
  unfold FS.sync
  rw [I.entry hj]
  exact step_on I.fuse _
theorem SegInv.lastPart (I : SegInv room (gs ++ [g]) A L) : L.parts.getLast? = some ⟨gs.flatten.length, g.length, (body g).length⟩ := by
  rw [I.parts, partsOf_snoc, List.getLast?_append, List.getLast?_singleton, Nat.zero_add]
  rfl
theorem SegInv.sync_ok (I : SegInv room gs A L) : (L.sync A).2 = 0 ∧ SegInv room gs (L.sync A).1 { L with dur := L.fin } := by
  have base : ∀ d, SegInv room gs A { L with dur := d } := fun d => ⟨I.wf, I.off, I.fuse, I.room, I.dir, I.files, I.ldir, I.parts, I.fin, I.size⟩
  rcases List.eq_nil_or_concat gs with rfl | ⟨gs0, g, rfl⟩
  · have : L.sync A = (A, 0) := by
      unfold Log.sync
      rw [I.parts]
      rfl
    rw [this]
    exact ⟨rfl, base _⟩
  · rw [List.concat_eq_append] at I ⊢
    have hl : (gs0 ++ [g]).length = gs0.length + 1 := by simp
    have e : L.sync A = A.sync pN (sgN gs0.flatten.length) := by
      unfold Log.sync
      rw [I.lastPart, I.ldir]
    have e2 := I.syncFile (j := gs0.length) (by omega)
    rw [List.take_left] at e2
    have W := I.wf.sync pN (sgN gs0.flatten.length)
    rw [e]
    rw [e2] at W ⊢
    refine ⟨rfl, W, I.off, ?_, I.room, I.dir, ?_, I.ldir, I.parts, I.fin, I.size⟩
    · show A.fuse.map _ = none
      rw [I.fuse]
      rfl
    · exact (modify_map_b A.files gs0.length (fun y => { y with safe := y.b.length }) fun y => rfl).trans I.files
theorem SegInv.create_ok (I : SegInv room gs A L) (hne : ∀ g ∈ gs, g ≠ []) (hfew : gs.length < 4096) (hn : gs.flatten.length < 18446744073709551616) :
    ∃ A', A.create pN (sgN gs.flatten.length) = (A', 0) ∧ A'.WF ∧ A'.off = false ∧ A'.fuse = none ∧ A'.room = room ∧ (∃ base pend, A'.dirs = [⟨pN, nowOf 0 0 (gs ++ [[]]), base, pend⟩]) ∧ A'.files.map (·.b) = (gs ++ [[]]).map body := by
  have hnew : AF.of (A.D 0).now (sgN gs.flatten.length) = none := by
    rw [I.now]
    cases ho : AF.of (nowOf 0 0 gs) (sgN gs.flatten.length) with
    | none => rfl
    | some x =>
      exfalso
      obtain ⟨n, h1, h2, h3⟩ := nowOf_lt 0 0 gs hne _ (of_mem ho)
      have := sgN_lt (a := n) (b := gs.flatten.length) (by omega) hn
      rw [← h1, decide_eq_true (show n < gs.flatten.length by omega)] at this
      exact strLt_irrefl _ this
  have W := I.wf.create pN (sgN gs.flatten.length)
  have hlen : A.files.length = gs.length := by
    have := congrArg List.length I.files
    simpa using this
  obtain ⟨base, pend, hd⟩ := I.dir
  have e : A.create pN (sgN gs.flatten.length) = (FS.did { A.stepOn with files := A.files ++ [⟨[], 0⟩] } 0 (.create (sgN gs.flatten.length) A.files.length), 0) := by
    unfold FS.create
    rw [I.ready (by intro s hs; rw [List.mem_singleton] at hs; rw [hs]; exact sgN_right _)]
    simp only [hnew, Option.isSome_none, Bool.false_eq_true, if_false]
    rw [if_neg (by rw [I.now, nowOf_length]; omega)]
    exact step_on I.fuse _
  rw [e] at W
  refine ⟨_, e, W, I.off, ?_, I.room, ⟨base, pend ++ [.create (sgN gs.flatten.length) A.files.length], ?_⟩, ?_⟩
  · show A.fuse.map _ = none
    rw [I.fuse]
    rfl
  · show A.dirs.modify 0 _ = _
    rw [hd]
    show [_] = [_]
    congr 1
    unfold Dir.did
    dsimp only
    congr 1
    show ins _ _ (nowOf 0 0 gs) = _
    rw [ins_end, nowOf_snoc, hlen, Nat.zero_add, Nat.zero_add]
    intro p hp
    obtain ⟨n, h1, h2, h3⟩ := nowOf_lt 0 0 gs hne p hp
    rw [h1, sgN_lt (by omega) hn]
    exact decide_eq_true (by omega)
  · show (A.files ++ [_]).map _ = _
    rw [List.map_append, List.map_append, I.files]
    rfl
theorem SegInv.roll_ok (I : SegInv room gs A L) (hne : ∀ g ∈ gs, g ≠ []) (hfew : gs.length < 4096) (hn : gs.flatten.length < 18446744073709551616) :
    (L.roll A).2.2 = 0 ∧ SegInv room (gs ++ [[]]) (L.roll A).1 (L.roll A).2.1 := by
  obtain ⟨h1, I1⟩ := I.sync_ok
  obtain ⟨A2, e2, W2, o2, f2, r2, ⟨base, pend, d2⟩, b2⟩ := I1.create_ok hne hfew hn
  have h2 : ((L.sync A).1.create L.dir (sgN L.fin)).2 = 0 := by rw [I.ldir, I.fin, e2]
  have ef : ((L.sync A).1.create L.dir (sgN L.fin)).1 = A2 := by rw [I.ldir, I.fin, e2]
  have W3 := W2.syncDir pN
  have hr : A2.ready pN [] = .ok 0 := ready_of (d := ⟨pN, nowOf 0 0 (gs ++ [[]]), base, pend⟩) W2 o2 (i := 0) (by rw [d2]; rfl) (by simp)
  have e3 : A2.syncDir pN = (A2.stepOn.setDir 0 fun d => { d with base := d.now, pend := [] }, 0) := by
    unfold FS.syncDir
    rw [hr]
    exact step_on f2 _
  have h3 : (((L.sync A).1.create L.dir (sgN L.fin)).1.syncDir L.dir).2 = 0 := by rw [ef, I.ldir, e3]
  rw [Log.roll4 h1 h2 h3, ef, I.ldir]
  rw [e3] at W3 ⊢
  refine ⟨rfl, W3, o2, ?_, r2, ⟨nowOf 0 0 (gs ++ [[]]), [], ?_⟩, b2, rfl, ?_, ?_, I.size⟩
  · show A2.fuse.map _ = none
    rw [f2]
    rfl
  · show A2.dirs.modify 0 _ = _
    rw [d2]
    rfl
  · show L.parts ++ [_] = _
    rw [partsOf_snoc, I.parts, I.fin, Nat.zero_add]
    rfl
  · show L.fin = _
    rw [I.fin]
    simp
theorem mem_le_sum : ∀ {l : List Nat} {x : Nat}, x ∈ l → x ≤ l.sum
  | [], x, h => by cases h
  | y :: l, x, h => by
    rw [List.sum_cons]
    rcases List.mem_cons.1 h with rfl | h
    · omega
    · have := mem_le_sum h
      omega
theorem body_snoc (g : List (List Nat)) (b : List Nat) : body (g ++ [b]) = body g ++ packN b := by simp [body]
theorem SegInv.put_ok (I : SegInv room (gs ++ [g]) A L) (h8 : B8 b) (h1 : (body g).length + (8 + b.length) ≤ 16777216) (h2 : (((gs ++ [g]).map fun g => (body g).length).sum) + (8 + b.length) ≤ room) :
    (L.put A b).2.2 = .ok L.fin ∧ SegInv room (gs ++ [g ++ [b]]) (L.put A b).1 (L.put A b).2.1 := by
  have hlast := I.lastPart
  have hen := I.entry (j := gs.length) (by simp)
  rw [List.take_left] at hen
  have hX := I.file (j := gs.length) (g := g) (by simp)
  have hu := I.used
  have W := I.wf.append pN (sgN gs.flatten.length) (packN_B8 h8)
  have e : A.append pN (sgN gs.flatten.length) (packN b) = (A.stepOn.setFile gs.length fun y => { y with b := y.b ++ packN b }, 0) := by
    unfold FS.append
    rw [hen]
    dsimp only
    rw [hX, packN_length, if_neg (by omega), hu, I.room, if_neg (by omega)]
    exact step_on I.fuse _
  have ep : L.put A b = ((A.stepOn.setFile gs.length fun y => { y with b := y.b ++ packN b }), { L with parts := L.parts.dropLast ++ [⟨gs.flatten.length, g.length + 1, (body g).length + (8 + b.length)⟩], fin := L.fin + 1 }, .ok L.fin) := by
    unfold Log.put
    rw [hlast]
    dsimp only
    rw [I.ldir, e]
    rfl
  rw [e] at W
  rw [ep]
  obtain ⟨base, pend, hd⟩ := I.dir
  refine ⟨rfl, W, I.off, ?_, I.room, ⟨base, pend, ?_⟩, ?_, I.ldir, ?_, ?_, I.size⟩
  · show A.fuse.map _ = none
    rw [I.fuse]
    rfl
  · show A.dirs = _
    rw [hd, nowOf_snoc, nowOf_snoc]
  · show (A.files.modify gs.length _).map _ = _
    have hf := I.files
    apply List.ext_getElem?
    intro j
    have hj := congrArg (fun l => l[j]?) hf
    simp only [List.getElem?_map] at hj
    rw [List.getElem?_map, get_modify, List.getElem?_map]
    by_cases hjl : gs.length = j
    · subst hjl
      simp only [List.getElem?_append_right (Nat.le_refl _), Nat.sub_self, List.getElem?_cons_zero, Option.map_some] at hj ⊢
      cases hA : A.files[gs.length]? with
      | none => rw [hA] at hj; cases hj
      | some y =>
        rw [hA, Option.map_some, Option.some.injEq] at hj
        rw [Option.map_some, Option.map_some, if_pos trivial, body_snoc, ← hj]
    · have e3 : (gs ++ [g ++ [b]])[j]? = (gs ++ [g])[j]? := by
        by_cases hlt : j < gs.length
        · rw [List.getElem?_append_left hlt, List.getElem?_append_left hlt]
        · rw [List.getElem?_eq_none (by simp; omega), List.getElem?_eq_none (by simp; omega)]
      rw [e3, ← hj]
      cases A.files[j]? with
      | none => rfl
      | some y => simp only [Option.map_some, if_neg hjl]
  · show L.parts.dropLast ++ [_] = _
    rw [I.parts, partsOf_snoc, partsOf_snoc, List.dropLast_concat, body_snoc]
    simp only [List.length_append, packN_length, List.length_singleton, Nat.zero_add]
  · show L.fin + 1 = _
    rw [I.fin]
    simp
    omega
/-- A record more, whatever segments there are. -/
theorem SegInv.append_ok (I : SegInv room gs A L) (hne : ∀ g ∈ gs, g ≠ []) (hfew : gs.length < 4096) (hn : gs.flatten.length < 18446744073709551616) (h8 : B8 b) (hl : b.length ≤ 1024)
    (hr : ((gs.map fun g => (body g).length).sum) + (8 + b.length) ≤ room) (hb : room ≤ 16777216) :
    (L.append A b).2.2 = .ok L.fin ∧ ∃ gs', gs'.flatten = gs.flatten ++ [b] ∧ (∀ g ∈ gs', g ≠ []) ∧ gs'.length ≤ gs.length + 1 ∧ ((gs'.map fun g => (body g).length).sum) = ((gs.map fun g => (body g).length).sum) + (8 + b.length) ∧ SegInv room gs' (L.append A b).1 (L.append A b).2.1 := by
  have hle : ∀ g ∈ gs, (body g).length ≤ ((gs.map fun g => (body g).length).sum) := fun g hg => mem_le_sum (List.mem_map.2 ⟨g, hg, rfl⟩)
  cases hf : L.full with
  | true =>
    obtain ⟨e0, I1⟩ := I.roll_ok hne hfew hn
    rw [Log.append_on (by omega) hf e0]
    have hfin : (L.roll A).2.1.fin = L.fin := by
      rw [I1.fin, I.fin]
      simp
    have hs0 : (List.map (fun g => (body g).length) (gs ++ [[]])).sum = (List.map (fun g => (body g).length) gs).sum := by
      rw [List.map_append, List.sum_append]
      rfl
    obtain ⟨e1, I2⟩ := I1.put_ok h8 (by show 0 + (8 + b.length) ≤ _; omega) (by rw [hs0]; omega)
    rw [hfin] at e1
    refine ⟨e1, gs ++ [[] ++ [b]], by simp, ?_, by simp, ?_, I2⟩
    · intro g hg
      rcases List.mem_append.1 hg with hg | hg
      · exact hne g hg
      · rw [List.mem_singleton] at hg
        subst hg
        simp
    · rw [List.map_append, List.sum_append]
      simp [body, packN_length]
  | false =>
    rw [Log.append_put (by omega) hf]
    rcases List.eq_nil_or_concat gs with rfl | ⟨gs0, g, rfl⟩
    · exfalso
      unfold Log.full at hf
      rw [I.parts] at hf
      cases hf
    · rw [List.concat_eq_append] at *
      have := hle g (by simp)
      obtain ⟨e1, I2⟩ := I.put_ok h8 (by omega) hr
      refine ⟨e1, gs0 ++ [g ++ [b]], by simp, ?_, by simp, ?_, I2⟩
      · intro g' hg
        rcases List.mem_append.1 hg with hg | hg
        · exact hne g' (by simp [hg])
        · rw [List.mem_singleton] at hg
          subst hg
          simp
      · rw [List.map_append, List.sum_append, List.map_append, List.sum_append]
        simp [body_snoc, packN_length]
        omega
end
end AF

end Go.Proofs.Yticjjdhaikbdaaa

namespace Go.Proofs.Yticjjdhaikbdaaa
open Go Go.RowKit
set_option linter.unusedVariables false
set_option linter.unusedSimpArgs false
open Frame (packN packN_length packN_B8 scanN reach)
namespace AF
theorem goodN_body {g : List (List Nat)} (h : ∀ x ∈ g, B8 x ∧ x.length ≤ 1024) : goodN (body g) = g := by
  have h2 : scanN (body g) = g := by
    have := Frame.scanN_packs g [] (fun x hx => ⟨(h x hx).1, by have := (h x hx).2; omega⟩)
    rw [List.append_nil, Frame.scanN_nil, List.append_nil] at this
    exact this
  rw [goodN_all (by rw [h2]; exact fun y hy => (h y hy).2), h2]
/-- What is there is read: the records from lo to hi, of those from b on. -/
theorem readGo_parts {A : FS} {dir : ByteArray} {lo hi : Nat} (hlh : lo ≤ hi) : ∀ (gs : List (List (List Nat))) (b : Nat) (out : List (List Nat)),
    (∀ (j : Nat) (g : List (List Nat)), gs[j]? = some g → A.read dir (sgN (b + (gs.take j).flatten.length)) = .ok (body g)) → (∀ g ∈ gs, ∀ x ∈ g, B8 x ∧ x.length ≤ 1024) →
    Log.readGo A dir lo hi (partsOf b gs) out = .ok (out ++ (gs.flatten.take (hi - b)).drop (lo - b))
  | [], b, out, _, _ => by simp [partsOf, Log.readGo]
  | g :: gs, b, out, hrd, hg => by
    have h0 := hrd 0 g rfl
    rw [List.take_zero, List.flatten_nil, List.length_nil, Nat.add_zero] at h0
    have hgood := goodN_body (hg g (by simp))
    have ih := fun out' => readGo_parts hlh gs (b + g.length) out' (fun j g' hj => by
      have := hrd (j + 1) g' hj
      rw [List.take_succ_cons, List.flatten_cons, List.length_append, ← Nat.add_assoc] at this
      exact this) (fun g' hg' => hg g' (by simp [hg']))
    rw [partsOf, Log.readGo, List.flatten_cons]
    by_cases h1 : hi ≤ b ∨ lo = hi
    · rw [if_pos h1]
      have : ((g ++ gs.flatten).take (hi - b)).drop (lo - b) = [] := by
        apply List.drop_eq_nil_of_le
        rw [List.length_take]
        omega
      rw [this, List.append_nil]
    · rw [if_neg h1]
      have key : ((g ++ gs.flatten).take (hi - b)).drop (lo - b) = (g.take (min (hi - b) g.length)).drop (lo - b) ++ (gs.flatten.take (hi - (b + g.length))).drop (lo - (b + g.length)) := by
        rw [List.take_append, List.drop_append, List.length_take]
        have e1 : g.take (min (hi - b) g.length) = g.take (hi - b) := by
          rcases Nat.le_total (hi - b) g.length with h | h
          · rw [Nat.min_eq_left h]
          · rw [Nat.min_eq_right h, List.take_of_length_le (Nat.le_refl _), List.take_of_length_le h]
        rw [e1, show hi - b - g.length = hi - (b + g.length) by omega]
        by_cases h2 : g.length ≤ hi - b
        · rw [Nat.min_eq_right h2, show lo - b - g.length = lo - (b + g.length) by omega]
        · have e3 : hi - (b + g.length) = 0 := by omega
          rw [e3, List.take_zero, List.drop_nil, List.drop_nil]
      rw [key, ← List.append_assoc]
      by_cases h2 : g.length = 0
      · rw [if_pos h2]
        have : g = [] := List.eq_nil_of_length_eq_zero h2
        subst this
        rw [ih, List.take_nil, List.drop_nil, List.append_nil]
      · rw [if_neg h2]
        dsimp only
        rw [h0]
        dsimp only
        rw [hgood, if_neg (Nat.lt_irrefl _)]
        exact ih _
theorem readGo_skip {A : FS} {dir : ByteArray} {lo hi : Nat} (hlh : lo ≤ hi) : ∀ (gs : List (List (List Nat))) (b : Nat) (out : List (List Nat)),
    (∀ (j : Nat) (g : List (List Nat)), gs[j]? = some g → A.read dir (sgN (b + (gs.take j).flatten.length)) = .ok (body g)) → (∀ g ∈ gs, ∀ x ∈ g, B8 x ∧ x.length ≤ 1024) →
    Log.readGo A dir lo hi (partsOf b gs) out = Log.readGo A dir lo hi ((partsOf b gs).drop ((partsOf b gs).findIdx fun p => decide (lo < p.base + p.count))) out
  | [], b, out, _, _ => rfl
  | g :: gs, b, out, hrd, hg => by
    have h0 := hrd 0 g rfl
    rw [List.take_zero, List.flatten_nil, List.length_nil, Nat.add_zero] at h0
    have hgood := goodN_body (hg g (by simp))
    have ih := readGo_skip hlh gs (b + g.length) out (fun j g' hj => by
      have := hrd (j + 1) g' hj
      rw [List.take_succ_cons, List.flatten_cons, List.length_append, ← Nat.add_assoc] at this
      exact this) (fun g' hg' => hg g' (by simp [hg']))
    by_cases hlt : lo < b + g.length
    · rw [partsOf, List.findIdx_cons, decide_eq_true (by exact hlt), cond_true, List.drop_zero]
    · rw [partsOf, List.findIdx_cons, decide_eq_false (by exact hlt), cond_false, List.drop_succ_cons, ← ih, Log.readGo]
      by_cases h1 : hi ≤ b ∨ lo = hi
      · rw [if_pos h1]
        have e : lo = hi := by omega
        cases gs with
        | nil => rfl
        | cons g2 gs2 =>
          rw [partsOf, Log.readGo, if_pos (.inr e)]
      · rw [if_neg h1]
        by_cases h2 : g.length = 0
        · rw [if_pos h2]
        · rw [if_neg h2]
          dsimp only
          rw [h0]
          dsimp only
          rw [hgood, if_neg (Nat.lt_irrefl _)]
          have : (g.take (min (hi - b) g.length)).drop (lo - b) = [] := by
            apply List.drop_eq_nil_of_le
            rw [List.length_take]
            omega
          rw [this, List.append_nil]
theorem SegInv.read_ok {room : Nat} {gs : List (List (List Nat))} {A : FS} {L : Log} (I : SegInv room gs A L) (hg : ∀ g ∈ gs, ∀ x ∈ g, B8 x ∧ x.length ≤ 1024) {lo hi : Nat} (h1 : lo ≤ hi) (h2 : hi ≤ gs.flatten.length) :
    L.read A (lo : Int) (hi : Int) = .ok ((gs.flatten.take hi).drop lo) := by
  unfold Log.read
  rw [I.fin, if_neg (by rintro (h | h | h) <;> omega), Int.toNat_natCast, Int.toNat_natCast, I.ldir]
  unfold Log.from_
  rw [I.parts]
  have hrd : ∀ (j : Nat) (g : List (List Nat)), gs[j]? = some g → A.read pN (sgN (0 + (gs.take j).flatten.length)) = .ok (body g) := fun j g hj => by
    rw [Nat.zero_add]
    exact I.read hj
  rw [← readGo_skip h1 gs 0 [] hrd hg, readGo_parts h1 gs 0 [] hrd hg]
  rfl
end AF

end Go.Proofs.Yticjjdhaikbdaaa

namespace Go.Proofs.Yticjjdhaikbdaaa
open Go Go.RowKit
set_option linter.unusedVariables false
set_option linter.unusedSimpArgs false
open Frame (packN packN_length packN_B8)

namespace AF
variable {L : Log} {A : FS} {b : List Nat}
theorem Log.roll_dur (he : (L.roll A).2.2 = 0) : (L.roll A).2.1.dur = L.fin := by
  by_cases h1 : (L.sync A).2 = 0
  · by_cases h2 : ((L.sync A).1.create L.dir (sgN L.fin)).2 = 0
    · by_cases h3 : (((L.sync A).1.create L.dir (sgN L.fin)).1.syncDir L.dir).2 = 0
      · rw [Log.roll4 h1 h2 h3]
      · rw [Log.roll3 h1 h2 h3]
    · rw [Log.roll2 h1 h2]
  · rw [Log.roll1 h1] at he
    exact absurd he h1
theorem Log.put_dur : (L.put A b).2.1.dur = L.dur := by
  unfold Log.put
  split
  · rfl
  · simp only
    split <;> rfl
theorem Log.small0 {dir : ByteArray} {size : Nat} (hd : dir.size < 4611686018427387904) (hs : size ≤ 16777216) : Log.Small 0 ⟨dir, size, [], 0, 0⟩ :=
  ⟨by decide, hs, hd, Nat.le_refl _, Nat.le_refl _, fun p hp => by cases hp⟩
theorem Log.up0 {dir : ByteArray} {size : Nat} : Log.Up ⟨dir, size, [], 0, 0⟩ := ⟨(fun p hp => by cases hp), List.Pairwise.nil⟩
end AF
section
variable {b : Nat} {A A' : AF.FS} {F : List HProp} {h : Heap} {dir name : ByteArray}
theorem F100_nil {a : Option Addr} {c : Nat} : CallsH Try.prog 100 [.slice a 0 c] h fun v h' => v = .slice none 0 0 ∧ h' = h := by
  apply F100b_ok
  unfold F100b
  refine ⟨fun st hh => st = (⟨none, 0, 0⟩, 0) ∧ hh = h, fun _ _ => 0, ⟨rfl, rfl⟩, ?_⟩
  rintro st h1 ⟨rfl, rfl⟩
  exact ⟨rfl, rfl⟩
theorem F99_nil {p : Option Addr} {a : Option Addr} {c : Nat} : CallsH Try.prog 99 [.pointer p, .slice a 0 c] h fun v h' => v = .int .i64 0 ∧ h' = h := by
  apply F99b_ok
  unfold F99b
  refine ⟨fun st hh => st = 0 ∧ hh = h, fun _ _ => 0, ⟨rfl, rfl⟩, ?_⟩
  rintro st h1 ⟨rfl, rfl⟩
  exact ⟨rfl, rfl⟩
theorem F49_fresh {size : Nat} (h1 : 1 ≤ size) (h2 : size ≤ 16777216) (W : A.WF) (hs : A.steps + 20000 < 1099511627776) (hd : dir.size < 4611686018427387904) (hp : A.prep dir = (A', .ok [])) (H : sat (fsP b A :: F) h) :
    CallsH Try.prog 49 [ptrV b, .string dir, .int .i64 (size : Int)] h fun v h' => ∃ lb, v = .tuple #[ptrV lb, .int .i64 0] ∧ A'.WF ∧ A'.steps ≤ A.steps + 5001 ∧ sat (logP lb b ⟨dir, size, [], 0, 0⟩ :: fsP b A' :: F) h' := by
  apply F49b_ok
  unfold F49b
  rw [decide_eq_false (show ¬ ((size : Int) < 1) by omega), cond_false, decide_eq_false (show ¬ ((size : Int) > 16777216) by omega), cond_false]
  refine (F42_spec W hs hd H).mono ?_
  rintro v h3 ⟨W1, s1, hr⟩
  rw [hp] at W1 s1 hr
  rcases hr with ⟨ks, a, c, hk, _, _, rfl, H3⟩ | ⟨e, hk, _⟩
  · cases hk
    refine ⟨a, 0, c, 0, rfl, ?_⟩
    rw [show ((0 : Int) != 0) = false from rfl, cond_false]
    refine Al_sat H3.drop fun lb h4 H4 => ?_
    refine F100_nil.mono ?_
    rintro v h5 ⟨rfl, rfl⟩
    rw [DSl_slice]
    refine F99_nil.mono ?_
    rintro v h6 ⟨rfl, rfl⟩
    rw [DI_int, show ((0 : Int) != 0) = false from rfl, cond_false]
    have H5 : sat (logP lb b ⟨dir, size, [], 0, 0⟩ :: fsP b A' :: F) h6 := logP_shut (a := none) (c := 0) ((ownS_nil 141 3 H4).mv 1)
    refine (F52_spec (k := 0) W1 (by dsimp only at s1 ⊢; omega) (AF.Log.small0 hd h2) H5).mono ?_
    rintro v h7 ⟨rfl, H7⟩
    have e0 : (AF.Log.sync ⟨dir, size, [], 0, 0⟩ A') = (A', 0) := rfl
    rw [e0] at H7 ⊢
    rw [DI_int, show (((0 : Nat) : Int) != 0) = false from rfl, cond_false]
    refine ⟨lb, rfl, W1, s1, ?_⟩
    rw [AF.Log.synced, if_pos rfl] at H7
    exact H7
  · cases hk
/-- A new file system with power, in it a new log. -/
theorem fresh_prep (room : Nat) : AF.FS.prep ⟨room, 0, none, false, [], []⟩ AF.pN = (⟨room, 1, none, false, [], [⟨AF.pN, [], [], []⟩]⟩, .ok []) := by kernel_rfl
theorem fresh_inv {room size : Nat} (W : AF.FS.WF ⟨room, 1, none, false, [], [⟨AF.pN, [], [], []⟩]⟩) (hs : 1 ≤ size) : AF.SegInv room [] ⟨room, 1, none, false, [], [⟨AF.pN, [], [], []⟩]⟩ ⟨AF.pN, size, [], 0, 0⟩ :=
  ⟨W, rfl, rfl, rfl, ⟨[], [], rfl⟩, rfl, rfl, rfl, rfl, hs⟩
abbrev abB : List Nat := [97, 98]
abbrev cdB : List Nat := [99, 100]
theorem two_B8 {x y : Nat} (hx : x < 256) (hy : y < 256) : B8 [x, y] := fun n hn => by
  rcases List.mem_cons.1 hn with rfl | hn
  · exact hx
  · rw [List.mem_singleton] at hn
    subst hn
    exact hy
theorem F48_spec (H : sat F h) : CallsH Try.prog 48 [] h fun v h' => v = .bool true ∧ sat F h' := by
  apply F48b_ok
  unfold F48b
  refine (F15_spec (room := 1000) H (by omega)).mono ?_
  rintro v h1 ⟨b, rfl, H1⟩
  refine ⟨some ⟨b, 0, none⟩, 0, rfl, ?_⟩
  rw [show ((0 : Int) != 0) = false from rfl, cond_false, show (some (⟨b, 0, none⟩ : Addr)).isNone = false from rfl, cond_false]
  refine (F49_fresh (size := 10) (dir := AF.pN) (by omega) (by omega) (new_wf (by omega)) (by decide) (by decide) (fresh_prep 1000) H1).mono ?_
  rintro v h2 ⟨lb, rfl, W2, s2, H2⟩
  refine ⟨some ⟨lb, 0, none⟩, 0, rfl, ?_⟩
  rw [show ((0 : Int) != 0) = false from rfl, cond_false, show (some (⟨lb, 0, none⟩ : Addr)).isNone = false from rfl, cond_false]
  have I0 := fresh_inv (size := 10) W2 (by omega)
  have S0 : AF.Log.Small 0 ⟨AF.pN, 10, [], 0, 0⟩ := AF.Log.small0 (by decide) (by decide)
  have U0 : AF.Log.Up ⟨AF.pN, 10, [], 0, 0⟩ := AF.Log.up0
  generalize hL0 : (⟨AF.pN, 10, [], 0, 0⟩ : AF.Log) = L0 at H2 I0 S0 U0
  generalize hA0 : (⟨1000, 1, none, false, [], [⟨AF.pN, [], [], []⟩]⟩ : AF.FS) = A0 at H2 I0 W2 s2
  have hsz0 : L0.size = 10 := by rw [← hL0]
  have hst0 : A0.steps = 1 := by rw [← hA0]
  have h8a : B8 abB := two_B8 (by decide) (by decide)
  have h8c : B8 cdB := two_B8 (by decide) (by decide)
  -- the first record
  have f0 : L0.full = true := by
    unfold AF.Log.full
    rw [I0.parts]
    rfl
  obtain ⟨e1, I1⟩ := I0.roll_ok (by simp) (by decide) (by decide)
  have d1 := AF.Log.roll_dur e1
  obtain ⟨e2, I2⟩ := AF.SegInv.put_ok (gs := []) (g := []) (b := abB) I1 h8a (by decide) (by decide)
  have d2 := AF.Log.put_dur (L := (L0.roll A0).2.1) (A := (L0.roll A0).1) (b := abB)
  have ea : L0.append A0 abB = (L0.roll A0).2.1.put (L0.roll A0).1 abB := AF.Log.append_on (by decide) f0 e1
  rw [← ea] at e2 I2 d2
  have e2' : (L0.append A0 abB).2.2 = .ok 0 := by rw [e2, I1.fin]; rfl
  have K1 := AF.Log.append_keeps (b := abB) I0.wf S0 (by omega) h8a
  have U1 := AF.Log.append_up (A := A0) (b := abB) U0
  have hsz1 : (L0.append A0 abB).2.1.size = 10 := by
    rw [ea]
    have : ∀ (L : AF.Log) (A : AF.FS) (b : List Nat), (L.put A b).2.1.size = L.size := fun L A b => by
      unfold AF.Log.put
      split
      · rfl
      · simp only
        split <;> rfl
    rw [this]
    have : (L0.roll A0).2.1.size = L0.size := by
      unfold AF.Log.roll
      simp only
      split
      · rfl
      · split
        · rfl
        · split <;> rfl
    rw [this, hsz0]
  refine Al_sat H2 fun b0 h3 H3 => ?_
  refine convBytes_sat u31 (by kernel_rfl) H3 fun h4 H4 => ?_
  rw [DSl_slice]
  refine (F50_spec (bs := abB) I0.wf (by rw [hst0]; decide) S0 (by decide) (fun h' hh => RdCf hh rfl) h8a rfl (H4.ordT 3 [1, 2, 0])).mono ?_
  rintro v h5 ⟨rfl, H5⟩
  rw [e2']
  refine ⟨0, 0, rfl, ?_⟩
  generalize L0.append A0 abB = r1 at H5 I2 K1 U1 hsz1 e2 d2
  obtain ⟨A1, L1, x1⟩ := r1
  dsimp only at H5 I2 K1 U1 hsz1 d2
  -- the second
  have f1 : L1.full = true := by
    unfold AF.Log.full
    rw [I2.lastPart]
    dsimp only
    rw [hsz1]
    exact decide_eq_true (by decide)
  obtain ⟨e3, I3⟩ := I2.roll_ok (by simp) (by decide) (by decide)
  have d3 := AF.Log.roll_dur e3
  obtain ⟨e4, I4⟩ := AF.SegInv.put_ok (gs := [[abB]]) (g := []) (b := cdB) I3 h8c (by decide) (by decide)
  have d4 := AF.Log.put_dur (L := (L1.roll A1).2.1) (A := (L1.roll A1).1) (b := cdB)
  have ec : L1.append A1 cdB = (L1.roll A1).2.1.put (L1.roll A1).1 cdB := AF.Log.append_on (by decide) f1 e3
  rw [← ec] at e4 I4 d4
  have e4' : (L1.append A1 cdB).2.2 = .ok 1 := by rw [e4, I3.fin]; rfl
  have d5 : (L1.append A1 cdB).2.1.dur = 1 := by rw [d4, d3, I2.fin]; rfl
  have K2 := AF.Log.append_keeps (b := cdB) I2.wf K1.2.2 (by omega) h8c
  have U2 := AF.Log.append_up (A := A1) (b := cdB) U1
  refine Al_sat H5 fun b1 h6 H6 => ?_
  refine convBytes_sat u31 (by kernel_rfl) H6 fun h7 H7 => ?_
  rw [DSl_slice]
  refine (F50_spec (bs := cdB) I2.wf (by have := K1.2.1; omega) K1.2.2 (by decide) (fun h' hh => RdCf hh rfl) h8c rfl (H7.ordT 3 [1, 2, 0])).mono ?_
  rintro v h8 ⟨rfl, H8⟩
  rw [e4']
  refine ⟨1, 0, rfl, ?_⟩
  generalize L1.append A1 cdB = r2 at H8 I4 K2 U2 d5
  obtain ⟨A2, L2, x2⟩ := r2
  dsimp only at H8 I4 K2 U2 d5
  refine (F51_spec I4.wf K2.2.2 U2 H8).mono ?_
  have er : L2.read A2 1 2 = .ok [cdB] := by
    have := I4.read_ok (lo := 1) (hi := 2) (by
      intro g hg x hx
      have : x = abB ∨ x = cdB := by
        simp at hg
        rcases hg with rfl | rfl
        · left; simpa using hx
        · right; simpa using hx
      rcases this with rfl | rfl
      · exact ⟨h8a, by decide⟩
      · exact ⟨h8c, by decide⟩) (by decide) (by decide)
    exact this
  rintro v h9 (⟨out, a, c, hr, rfl, H9⟩ | ⟨e, hr, _⟩)
  · rw [er] at hr
    cases hr
    refine ⟨a, 1, c, 0, rfl, ?_⟩
    rw [show ((0 : Int) == 0) = true from rfl, cond_true, cond_true, cond_true, show ((1 : Int) == 1) = true from rfl, cond_true]
    refine (F55_spec (H9.mv 1)).mono ?_
    rintro v h10 ⟨rfl, rfl⟩
    rw [DI_int, I4.parts, show (((AF.partsOf 0 ([[abB]] ++ [[] ++ [cdB]])).length : Int) == 2) = true from rfl, cond_true]
    refine (F54_spec (H9.mv 1)).mono ?_
    rintro v h11 ⟨rfl, rfl⟩
    rw [DI_int, d5, show (((1 : Nat) : Int) == 1) = true from rfl, cond_true, cond_true, cond_true]
    refine idxBB (i := 0) (rdBB_of H9) rfl rfl fun b2 a' l' c' hc hrd hl' => ⟨_, hc, ?_⟩
    show DSl (Value.slice a' l' c') _
    rw [DSl_slice]
    refine ⟨ofN cdB, bytesIn_of hrd hl' h8c, ?_⟩
    rw [show strEq (ofN cdB) ⟨#[99, 100]⟩ = true from by rw [strEq_eq, sb_ofN h8c]; rfl]
    exact ⟨rfl, H9.rest 5⟩
  · rw [er] at hr
    cases hr
theorem n50 {a : Option Addr} {l c : Nat} (H : sat F h) : CallsH Try.prog 50 [.pointer none, .slice a l c] h fun v h' => v = .tuple #[.int .i64 0, .int .i64 1] ∧ sat F h' := by
  apply F50b_ok
  unfold F50b
  exact ⟨rfl, H⟩
theorem n51 {lo hi : Int} (H : sat F h) : CallsH Try.prog 51 [.pointer none, .int .i64 lo, .int .i64 hi] h fun v h' => v = .tuple #[.slice none 0 0, .int .i64 1] ∧ sat F h' := by
  apply F51b_ok
  unfold F51b
  refine Al_sat H fun b0 h1 H1 => Al_sat H1 fun b1 h2 H2 => ?_
  refine LdV (v := .pointer none) (H2.mv 1).get rfl ⟨_, rfl, ?_⟩
  exact ⟨rfl, H2.rest 2⟩
theorem n52 (H : sat F h) : CallsH Try.prog 52 [.pointer none] h (Nil1 F) := by
  apply F52b_ok
  unfold F52b
  exact ⟨rfl, H⟩
theorem n53 (H : sat F h) : CallsH Try.prog 53 [.pointer none] h fun v h' => v = .int .i64 0 ∧ sat F h' := by
  apply F53b_ok
  unfold F53b
  exact ⟨rfl, H⟩
theorem n54 (H : sat F h) : CallsH Try.prog 54 [.pointer none] h fun v h' => v = .int .i64 0 ∧ sat F h' := by
  apply F54b_ok
  unfold F54b
  exact ⟨rfl, H⟩
theorem n55 (H : sat F h) : CallsH Try.prog 55 [.pointer none] h fun v h' => v = .int .i64 0 ∧ sat F h' := by
  apply F55b_ok
  unfold F55b
  exact ⟨rfl, H⟩
theorem n49 {size : Int} (H : sat F h) : CallsH Try.prog 49 [.pointer none, .string dir, .int .i64 size] h fun v h' => v = .tuple #[.pointer none, .int .i64 (if size < 1 ∨ 16777216 < size then 2 else 1)] ∧ sat F h' := by
  apply F49b_ok
  unfold F49b
  by_cases h1 : size < 1
  · rw [decide_eq_true h1, cond_true, if_pos (.inl h1)]
    exact ⟨rfl, H⟩
  · rw [decide_eq_false h1, cond_false]
    by_cases h2 : 16777216 < size
    · rw [decide_eq_true (show size > 16777216 from h2), cond_true, if_pos (.inr h2)]
      exact ⟨rfl, H⟩
    · rw [decide_eq_false (show ¬ size > 16777216 from h2), cond_false, if_neg (by omega)]
      refine (n42 H).mono ?_
      rintro v h3 ⟨rfl, H3⟩
      refine ⟨none, 0, 0, 1, rfl, ?_⟩
      exact ⟨rfl, H3⟩
theorem SegmentNil_law (size lo hi : Int) (bs : ByteArray) (h : Heap) : CallsH Try.prog 13 [.int .i64 size, .int .i64 lo, .int .i64 hi, .string bs] h (Good h) := by
  apply F13b_ok
  unfold F13b
  refine (F48_spec (sat_old h)).mono ?_
  rintro v h1 ⟨rfl, H1⟩
  rw [DB_bool, Bool.not_true, cond_false]
  by_cases hz : bs.size > 4000
  · rw [decide_eq_true (show ((bs.size : Int) > 4000) by omega), cond_true]
    exact good_of H1
  · rw [decide_eq_false (show ¬ ((bs.size : Int) > 4000) by omega), cond_false]
    refine cText H1 (by unfold maxLen; omega) fun a c h2 H2 => ?_
    rw [DSl_slice]
    refine (n50 H2).mono ?_
    rintro v h3 ⟨rfl, H3⟩
    refine ⟨0, 1, rfl, ?_⟩
    refine (n51 H3).mono ?_
    rintro v h4 ⟨rfl, H4⟩
    refine ⟨none, 0, 0, 1, rfl, ?_⟩
    refine (n49 H4).mono ?_
    rintro v h5 ⟨rfl, H5⟩
    refine ⟨none, _, rfl, ?_⟩
    have tail : ∀ (e : Int) (hh : Heap), sat (ownS 5 1 a bs.size c ((sb bs).map nv) :: [old h]) hh → (if size < 1 ∨ 16777216 < size then (2 : Int) else 1) = e →
        CallsH Try.prog 52 [.pointer none] hh fun r5 h_5 => DI .i64 r5 fun x8 => (bif (x8 : Int) == 1 then
          CallsH Try.prog 53 [.pointer none] h_5 fun r6 h_6 => DI .i64 r6 fun x9 => (bif (x9 : Int) == 0 then
            CallsH Try.prog 54 [.pointer none] h_6 fun r7 h_7 => DI .i64 r7 fun x10 => (bif (x10 : Int) == 0 then
              CallsH Try.prog 55 [.pointer none] h_7 fun r8 h_8 => DI .i64 r8 fun x11 => (bif (x11 : Int) == 0 then
                (bif ((none : Option Addr)).isNone then Good h (.bool ((if size < 1 ∨ 16777216 < size then (2 : Int) else 1) == e)) h_8 else Good h (.bool false) h_8)
              else Good h (.bool false) h_8)
            else Good h (.bool false) h_7)
          else Good h (.bool false) h_6)
        else Good h (.bool false) h_5) := by
      intro e hh HH he
      refine (n52 HH).mono ?_
      rintro v h6 ⟨rfl, H6⟩
      rw [DI_int, show ((1 : Int) == 1) = true from rfl, cond_true]
      refine (n53 H6).mono ?_
      rintro v h7 ⟨rfl, H7⟩
      rw [DI_int, show ((0 : Int) == 0) = true from rfl, cond_true]
      refine (n54 H7).mono ?_
      rintro v h8 ⟨rfl, H8⟩
      rw [DI_int, show ((0 : Int) == 0) = true from rfl, cond_true]
      refine (n55 H8).mono ?_
      rintro v h9 ⟨rfl, H9⟩
      rw [DI_int, show ((0 : Int) == 0) = true from rfl, cond_true, show ((none : Option Addr)).isNone = true from rfl, cond_true, he, beq_self_eq_true]
      exact good_of H9.drop
    rw [show ((0 : Int) == 0) = true from rfl, show ((1 : Int) == 1) = true from rfl, show (((0 : Nat) : Int) == 0) = true from rfl]
    simp only [cond_true]
    by_cases h1' : size < 1
    · rw [decide_eq_true h1', cond_true]
      exact tail 2 h5 H5 (if_pos (.inl h1'))
    · rw [decide_eq_false h1', cond_false]
      by_cases h2' : 16777216 < size
      · rw [decide_eq_true (show size > 16777216 from h2'), cond_true]
        exact tail 2 h5 H5 (if_pos (.inr h2'))
      · rw [decide_eq_false (show ¬ size > 16777216 from h2'), cond_false]
        exact tail 1 h5 H5 (if_neg (by omega))
end

end Go.Proofs.Yticjjdhaikbdaaa
