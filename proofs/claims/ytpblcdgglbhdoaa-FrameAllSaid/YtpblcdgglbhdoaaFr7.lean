/- The iterator in a loop, left early or not: the law of the iterator. -/
import Derived.Test.YtpblcdgglbhdoaaFr4
namespace Go.Proofs.Ytpblcdgglbhdoaa
open Go Go.RowKit
set_option linter.unusedVariables false
set_option linter.unusedSimpArgs false
open Crc (Run More)
open Frame (be4 val4 packN firstN refAt scanN reach be4_B8 val4_lt val4_take packN_length packN_B8 firstN_refAt scanN_eq firstN_some firstN_pack)

/-- Parts chosen and ordered by their places. -/
def selL : List Nat → List HProp → List HProp
  | [], _ => []
  | k :: ks, l => match mvL k l with
    | [] => []
    | A :: r => A :: selL ks r
theorem star_sel : ∀ (ks : List Nat) (l : List HProp) (r : PHeap), star l r → ∃ r', (∀ b x, r' b = some x → r b = some x) ∧ star (selL ks l) r'
  | [], l, r, _ => ⟨fun _ => none, fun b x h => by simp at h, fun _ => rfl⟩
  | k :: ks, l, r, h => by
    have h2 := star_mv k l r h
    unfold selL
    cases he : mvL k l with
    | nil => exact ⟨fun _ => none, fun b x h => by simp at h, fun _ => rfl⟩
    | cons A t =>
      rw [he] at h2
      obtain ⟨r1, r2, hd, rfl, h1, h3⟩ := h2
      obtain ⟨r2', hs, h4⟩ := star_sel ks t r2 h3
      refine ⟨union r1 r2', fun b x hx => ?_, r1, r2', fun b x y hx hy => hd b x y hx (hs b y hy), rfl, h1, h4⟩
      unfold union at hx ⊢
      cases hr : r1 b with
      | some z => rw [hr] at hx; exact hx
      | none => rw [hr] at hx; exact hs b x hx
def relIx : Nat → List Nat → List Nat
  | 0, _ => []
  | _, [] => []
  | f + 1, k :: ks => k :: relIx f (ks.map fun j => bif Nat.blt k j then j - 1 else j)
theorem sat.ord (ks : List Nat) {l : List HProp} {h : Heap} (H : sat l h) : sat (selL (relIx ks.length ks) l) h := by
  obtain ⟨r, hr, hs⟩ := H
  obtain ⟨r', h1, h2⟩ := star_sel (relIx ks.length ks) l r hr
  exact ⟨r', h2, fun b x hx => hs b x (h1 b x hx)⟩
abbrev cI (b : Nat) (n : Int) : HProp := pt b (.cells #[.int .i64 n] 3 (0, 0))
abbrev cSs (b : Nat) (a : Option Addr) (l c : Nat) : HProp := pt b (.cells #[.slice a l c] 46 (0, 0))
abbrev cSb (b : Nat) (a : Option Addr) (l c : Nat) : HProp := pt b (.cells #[.slice a l c] 26 (0, 0))
abbrev cB (b : Nat) (z : Bool) : HProp := pt b (.cells #[.bool z] 4 (0, 0))
abbrev cU (b : Nat) (n : Int) : HProp := pt b (.cells #[.int .u8 n] 5 (0, 0))
theorem stV {h : Heap} {F : List HProp} {b : Nat} {u v : Value} {e : TypeId} {K : Heap → Prop} (H : sat (pt b (.cells #[u] e (0, 0)) :: F) h) (hK : ∀ h', sat (pt b (.cells #[v] e (0, 0)) :: F) h' → K h') : StC h ⟨b, 0, none⟩ v K :=
  StC_sat H Nat.zero_lt_one (nofz_zero 1 0 (by decide)) hK
/-- The marks that ranges over functions left. -/
def markP (ms : List Nat) : HProp := Many (ms.map fun d => pt d (.deferred (some [])))
theorem sat.consMany {A : HProp} {l F : List HProp} {h : Heap} (H : sat (A :: Many l :: F) h) : sat (Many (A :: l) :: F) h := by
  obtain ⟨r, hr, hs⟩ := H
  exact ⟨r, sep_assoc' hr, hs⟩
theorem leave_sat {K : Heap → Prop} : ∀ {ms : List Nat} {F : List HProp} {h : Heap}, sat (markP ms :: F) h → (∀ h', sat F h' → K h') → leaveH ms h K
  | [], F, h, H, hK => hK h H.drop
  | d :: ms, F, h, H, hK => by
    have H2 : sat (pt d (.deferred (some [])) :: ((ms.map fun d => pt d (.deferred (some []))) ++ F)) h := sat.open (l := F) (m := pt d (.deferred (some [])) :: ms.map fun d => pt d (.deferred (some []))) H
    refine ⟨H2.get, leave_sat (F := F) ?_ hK⟩
    exact sat.shut (H2.set (.deferred none)).drop
theorem frames_lt {x : List Nat} {done : List (List Nat)} {body : List Nat} {more : List (List Nat)} (h : scanN x = done ++ body :: more) : done.length < (scanN x).length := by
  rw [h]; simp
theorem frames_at {x : List Nat} {done : List (List Nat)} {body : List Nat} {more : List (List Nat)} (h : scanN x = done ++ body :: more) : ((scanN x).map sv)[done.length]? = some (sv body) := by
  rw [h, List.map_append, List.getElem?_append_right (by simp)]
  simp
theorem LdV {h : Heap} {b : Nat} {c : Array Value} {e : TypeId} {fr : Nat × Nat} {v : Value} {K : Value → Prop} (hb : h[b]? = some (.cells c e fr)) (hv : c[0]? = some v) (hK : K v) : Ld h ⟨b, 0, none⟩ K :=
  ⟨v, by rw [cellAt_of hb]; exact hv, hK⟩
def turnsLeft (a : Addr) (h : Heap) : Nat :=
  match cellAt h a with
  | some (.int _ t) => (2 - t).toNat
  | _ => 0

theorem FrameAll_law (s : ByteArray) (stop : Nat) (hstop : stop < 256) (h : Heap) : CallsH Try.prog 9 [.string s, .int .u8 (stop : Int)] h (Good h) := by
  apply F9_ok
  unfold F9
  refine Al_sat (sat_old h) fun b0 h0 H0 => Al_sat H0 fun b1 h1 H1 => ?_
  refine (F19_spec H1).mono ?_
  rintro v h2 ⟨rfl, H2⟩
  rw [DB_bool]
  simp only [addr_add0]
  cases hsz : decide ((s.size : Int) > 4000) with
  | true =>
    simp only [Bool.not_true, cond_false, cond_true]
    refine stV (v := .bool true) H2 fun h6 H6 => ?_
    refine LdV (v := .bool true) H6.get rfl ?_
    rw [DB_bool]
    exact good_of H6.drop.drop
  | false =>
    have hle : s.size ≤ 4000 := by have := of_decide_eq_false hsz; omega
    simp only [Bool.not_true, cond_false]
    have hsl := sb_length s
    have h8 := sb_B8 s
    refine bytesOfB t9 t26 t5 (show s.size ≤ maxLen by unfold maxLen; omega) H2 fun b2 c2 h3 H3 => ?_
    rw [DSl_slice]
    refine (F27_spec H3 (ownS_read H3) hsl (by omega)).mono ?_
    rintro v h4 ⟨cb, ca, cc, rfl, H4⟩
    refine ⟨_, rfl, ?_⟩
    refine ⟨fun st h5 => ∃ (i : Nat) (ns : List Nat), st = (i : Int) ∧ i ≤ s.size ∧ ns.length = s.size ∧ B8 ns ∧
        sat (ownS 5 1 (some ⟨b2, 0, none⟩) s.size c2 (ns.map nv) :: cSb cb ca s.size cc :: ownS 5 1 ca s.size cc ((sb s).map nv) :: cB b1 false :: cU b0 stop :: [old h]) h5,
      fun st _ => ((s.size : Int) - st).toNat, ⟨0, sb s, rfl, Nat.zero_le _, hsl, h8, H4.mv 2⟩, ?_⟩
    rintro st h5 ⟨i, ns, rfl, hi, hnl, hn8, H5⟩
    by_cases hlt : i < s.size
    · rw [decide_eq_true (show ((i : Int) < (s.size : Int)) by omega), cond_true]
      obtain ⟨x, hx⟩ : ∃ x, ns[i]? = some x := ⟨_, List.getElem?_eq_getElem (by omega)⟩
      have hx8 := hn8 x (List.mem_of_getElem? hx)
      have hget : (ns.map nv)[i]? = some (nv x) := by rw [List.getElem?_map, hx]; rfl
      have hml : (ns.map nv).length = s.size := by rw [List.length_map, hnl]
      refine IdxA_nat (ownS_read H5) hml hget fun b hb hc => ⟨_, hc, ?_⟩
      show DI .u8 (.int .u8 (x : Int)) _
      rw [DI_int]
      refine IdxA_nat (ownS_read H5) hml hget fun b hb hc => ?_
      simp only [Option.some.injEq] at hb
      subst hb
      rw [show (255 : Int) = ((255 : Nat) : Int) from rfl, xor8 hx8 (by decide)]
      refine ownS_set H5 (by rw [hml]; exact hlt) fun h6 H6 => ?_
      rw [show (ns.map nv).set i (.int .u8 ((x ^^^ 255 : Nat) : Int)) = (ns.set i (x ^^^ 255)).map nv from (List.map_set ..).symm] at H6
      rw [wrap64_succ (by omega)]
      refine ⟨⟨i + 1, ns.set i (x ^^^ 255), rfl, by omega, by rw [List.length_set, hnl], ?_, H6⟩, ?_⟩
      · intro n hn
        rcases List.mem_or_eq_of_mem_set hn with hn | rfl
        · exact hn8 n hn
        · exact Nat.xor_lt_two_pow (n := 8) hx8 (by decide)
      · show ((s.size : Int) - ((i + 1 : Nat) : Int)).toNat < ((s.size : Int) - (i : Int)).toNat
        omega
    · rw [decide_eq_false (show ¬ ((i : Int) < (s.size : Int)) by omega), cond_false]
      refine (F25_spec H5.drop (by omega)).mono ?_
      rintro v h6 ⟨ma, mc, rfl, H6⟩
      refine ⟨_, _, _, _, rfl, ?_⟩
      have hfr := scanN_reach _ (sb s) (Nat.le_refl _) h8
      have hf8 := scanN_B8 _ (sb s) (Nat.le_refl _) h8
      have hcount := scan_count (sb s) h8 (scanN (sb s)).length (scanN (sb s)) rfl hfr
      rw [hsl] at hfr hcount
      refine Al_sat H6 fun b3 h7 H7 => ?_
      refine stV H7 fun h8' H8 => ?_
      refine Al_sat H8 fun b4 h9 H9 => ?_
      refine stV (v := .int .i64 0) H9 fun h10 H10 => ?_
      -- the two turns
      refine ⟨fun st h11 => ∃ (t bt : Nat), st.1 = ⟨bt, 0, none⟩ ∧ t ≤ 2 ∧
          sat [cI bt t, markP st.2, cSs b3 ma (scanN (sb s)).length mc, ownS 9 1 ma (scanN (sb s)).length mc ((scanN (sb s)).map sv), cU b0 stop, cB b1 false, cSb cb ca s.size cc, ownS 5 1 ca s.size cc ((sb s).map nv), old h] h11,
        fun st h11 => turnsLeft st.1 h11, ⟨0, b4, rfl, by omega, ?_⟩, ?_⟩
      · have K2 : sat (markP [] :: _) h10 := sat.shut (m := []) H10
        exact K2.ord [1, 0, 2, 3, 7, 6, 4, 5, 8]
      · rintro ⟨ta, ms⟩ h11 ⟨t, bt, hta, ht2, H11⟩
        simp only at hta H11
        subst hta
        refine LdV (v := .int .i64 (t : Int)) H11.get rfl ?_
        rw [DI_int]
        by_cases ht : t < 2
        · rw [decide_eq_true (show ((t : Int) < 2) by omega), cond_true]
          refine Al_sat H11 fun b5 h12 H12 => ?_
          refine stV (v := .int .i64 0) H12 fun h13 H13 => ?_
          refine Al_sat H13 fun b6 h14 H14 => ?_
          refine stV (v := .int .i64 0) H14 fun h15 H15 => ?_
          intro rec hrec hy
          refine CallF_fn ?_
          have H16 := (H15.push (.deferred (some []))).push (rec .ready none)
          rw [Array.size_push] at H16
          refine (F31_spec (x := sb s) (a := ca) (l := s.size) (c := cc)
            (G := fun done => [pt (h15.size + 1) (rec .ready none), pt h15.size (.deferred (some [])), cI b5 (reach done : Nat), cI b6 (done.length : Nat), cI bt t, cSs b3 ma (scanN (sb s)).length mc, ownS 9 1 ma (scanN (sb s)).length mc ((scanN (sb s)).map sv), cU b0 stop, markP ms, cB b1 false, old h])
            (Out := fun h2 => ∃ st pend n, sat [pt (h15.size + 1) (rec st pend), pt h15.size (.deferred (some [])), cI b6 (n : Nat), cI bt t, cSs b3 ma (scanN (sb s)).length mc, ownS 9 1 ma (scanN (sb s)).length mc ((scanN (sb s)).map sv), cU b0 stop, markP ms, cB b1 false, cSb cb ca s.size cc, ownS 5 1 ca s.size cc ((sb s).map nv), old h] h2 ∧ st ≠ .busy ∧ ((pend = none ∧ n = (scanN (sb s)).length) ∨ (pend = some (.exit 4) ∧ t = 0)))
            h8 hsl (by omega) (H16.ord [10, 11, 0, 1, 3, 2, 4, 6, 7, 8, 5, 9, 12]) ?_ ?_).mono ?_
          · intro done body more h17 xa xc hsc hre H17
            refine CallV_yield ?_
            have hL := (H17.mv 3).get
            refine hy _ _ _ rfl hL ⟨_, _, _, _, rfl, hL, ?_⟩
            have H18 := (H17.mv 3).set (rec .busy none)
            have hb8 : B8 body := hf8 body (by rw [hsc]; simp)
            have hdl := frames_lt hsc
            have hmr : RdC (h17.setIfInBounds (h15.size + 1) (rec .busy none)) ma ((scanN (sb s)).map sv) := ownS_read (H18.mv 9)
            have hml : ((scanN (sb s)).map sv).length = (scanN (sb s)).length := List.length_map ..
            refine LdV (v := .int .i64 ((done.length : Nat) : Int)) (H18.mv 6).get rfl ?_
            rw [DI_int]
            refine LdV (v := .slice ma (scanN (sb s)).length mc) (H18.mv 8).get rfl ?_
            rw [DSl_slice, decide_eq_false (show ¬ (((done.length : Nat) : Int) ≥ (((scanN (sb s)).length : Nat) : Int)) by omega), cond_false]
            refine LdV (v := .int .i64 ((reach done : Nat) : Int)) (H18.mv 5).get rfl ?_
            rw [DI_int, bneN, decide_eq_false (by simp), cond_false]
            refine ⟨ofN body, bytesIn_of (ownS_read (H18.mv 1)) rfl hb8, ?_⟩
            refine LdV (v := .slice ma (scanN (sb s)).length mc) (H18.mv 8).get rfl ?_
            rw [DSl_slice]
            refine LdV (v := .int .i64 ((done.length : Nat) : Int)) (H18.mv 6).get rfl ?_
            rw [DI_int]
            refine IdxA_nat hmr hml (frames_at hsc) fun b hb hc => ⟨_, hc, ?_⟩
            show DS (.string (ofN body)) _
            rw [DS_string, show strEq (ofN body) (ofN body) = true from by rw [strEq_eq]; simp, Bool.not_true, cond_false]
            refine LdV (v := .int .i64 ((reach done : Nat) : Int)) (H18.mv 5).get rfl ?_
            rw [DI_int]
            refine LdV (v := .slice ma (scanN (sb s)).length mc) (H18.mv 8).get rfl ?_
            rw [DSl_slice]
            refine LdV (v := .int .i64 ((done.length : Nat) : Int)) (H18.mv 6).get rfl ?_
            rw [DI_int]
            refine IdxA_nat hmr hml (frames_at hsc) fun b hb hc => ⟨_, hc, ?_⟩
            show DS (.string (ofN body)) _
            rw [DS_string]
            have w1 : IntKind.wrap .i64 (IntKind.wrap .i64 (((reach done : Nat) : Int) + 8) + ((ofN body).size : Int)) = ((reach (done ++ [body]) : Nat) : Int) := by
              rw [ofN_len hb8, reach_snoc, IntWalk.i64_in (((reach done : Nat) : Int) + 8) (by omega), IntWalk.i64_in _ (by omega)]
              omega
            rw [w1]
            refine stV (H18.mv 5) fun h19 H19 => ?_
            refine LdV (v := .int .i64 ((done.length : Nat) : Int)) (H19.mv 6).get rfl ?_
            rw [DI_int, wrap64_succ (by omega)]
            refine stV (H19.mv 6) fun h20 H20 => ?_
            refine LdV (v := .int .i64 (t : Int)) (H20.mv 7).get rfl ?_
            rw [DI_int]
            have hLb := (H20.mv 2).get
            have onward : ∀ hq : Heap, hq = h20.setIfInBounds (h15.size + 1) (rec .ready none) → sat (cSb cb ca s.size cc :: ownS 5 1 ca s.size cc ((sb s).map nv) :: [pt (h15.size + 1) (rec .ready none), pt h15.size (.deferred (some [])), cI b5 (reach (done ++ [body]) : Nat), cI b6 ((done ++ [body]).length : Nat), cI bt t, cSs b3 ma (scanN (sb s)).length mc, ownS 9 1 ma (scanN (sb s)).length mc ((scanN (sb s)).map sv), cU b0 stop, markP ms, cB b1 false, old h]) hq := by
              rintro hq rfl
              have H21 := (H20.mv 2).set (rec .ready none)
              rw [List.length_append]
              exact H21.ord [4, 5, 0, 6, 2, 1, 7, 8, 9, 10, 11, 12, 13]
            cases ht0 : (t : Int) == 0 with
            | false => exact ⟨hLb, true, rfl, fun _ => onward _ rfl, fun e => by cases e⟩
            | true =>
              have ht0' : t = 0 := by rw [beq_iff_eq] at ht0; omega
              rw [cond_true]
              refine LdV (v := .int .i64 ((done.length + 1 : Nat) : Int)) H20.get rfl ?_
              rw [DI_int]
              refine LdV (v := .int .u8 (stop : Int)) (H20.mv 10).get rfl ?_
              rw [DI_int]
              cases hgt : decide (((done.length + 1 : Nat) : Int) > IntKind.wrap .i64 (stop : Int)) with
              | false => exact ⟨hLb, true, rfl, fun _ => onward _ rfl, fun e => by cases e⟩
              | true =>
                refine ⟨hLb, false, rfl, fun e => (by cases e), fun _ => ?_⟩
                have H21 := (H20.mv 2).set (rec .done (some (.exit 4)))
                exact ⟨.done, some (.exit 4), done.length + 1, H21.ord [0, 6, 1, 7, 8, 9, 10, 11, 12, 4, 5, 13], by decide, .inr ⟨rfl, ht0'⟩⟩
          · intro h17 H17
            exact ⟨.ready, none, (scanN (sb s)).length, H17.ord [2, 3, 5, 6, 7, 8, 9, 10, 11, 0, 1, 12], by decide, .inl ⟨rfl, rfl⟩⟩
          · rintro v h17 ⟨_, st, pend, n, H17, hst, hp⟩
            refine ⟨st, pend, H17.get, hst, ?_⟩
            have H18 := H17.set (rec .exhausted pend)
            have hbt := (H18.mv 3).get
            -- the next turn
            have next : ∀ (b7 : Nat) (hq : Heap), sat (cI b7 ((t + 1 : Nat) : Int) :: [pt (h15.size + 1) (rec .exhausted pend), pt h15.size (.deferred (some [])), cI b6 (n : Nat), cI bt t, cSs b3 ma (scanN (sb s)).length mc, ownS 9 1 ma (scanN (sb s)).length mc ((scanN (sb s)).map sv), cU b0 stop, markP ms, cB b1 false, cSb cb ca s.size cc, ownS 5 1 ca s.size cc ((sb s).map nv), old h]) hq →
                (∃ (t' bt' : Nat), (Addr.mk b7 0 none : Addr) = ⟨bt', 0, none⟩ ∧ t' ≤ 2 ∧
                  sat [cI bt' t', markP (h15.size :: ms), cSs b3 ma (scanN (sb s)).length mc, ownS 9 1 ma (scanN (sb s)).length mc ((scanN (sb s)).map sv), cU b0 stop, cB b1 false, cSb cb ca s.size cc, ownS 5 1 ca s.size cc ((sb s).map nv), old h] hq) ∧ turnsLeft ⟨b7, 0, none⟩ hq < turnsLeft ⟨bt, 0, none⟩ h11 := by
              intro b7 hq Hq
              refine ⟨⟨t + 1, b7, rfl, by omega, ?_⟩, ?_⟩
              · have K := Hq.ord [2, 8, 0, 5, 6, 7, 9, 10, 11, 12]
                have K2 := sat.consMany K
                exact K2.ord [1, 0, 2, 3, 4, 5, 6, 7, 8]
              · unfold turnsLeft
                rw [cellAt_of Hq.get, cellAt_of H11.get]
                show (2 - ((t + 1 : Nat) : Int)).toNat < (2 - (t : Int)).toNat
                omega
            refine ⟨?_, ?_, ?_, ?_⟩
            · rcases hp with ⟨rfl, _⟩ | ⟨rfl, _⟩
              · exact .inl rfl
              · exact .inr (.inr rfl)
            · rintro rfl
              refine LdV (v := .int .i64 (t : Int)) hbt rfl ?_
              rw [DI_int]
              have hn : n = (scanN (sb s)).length := by
                rcases hp with ⟨_, hn⟩ | ⟨e, _⟩
                · exact hn
                · cases e
              cases ht1 : (t : Int) == 1 with
              | true =>
                rw [cond_true]
                refine LdV (v := .int .i64 ((n : Nat) : Int)) (H18.mv 2).get rfl ?_
                rw [DI_int]
                refine LdV (v := .slice ma (scanN (sb s)).length mc) (H18.mv 4).get rfl ?_
                rw [DSl_slice, bneN, decide_eq_false (by simp [hn]), cond_false]
                refine LdV (v := .int .i64 (t : Int)) hbt rfl ?_
                rw [DI_int]
                refine Al_sat H18 fun b7 h19 H19 => ?_
                refine stV (v := .int .i64 (t : Int)) H19 fun h20 H20 => ?_
                refine LdV (v := .int .i64 (t : Int)) H20.get rfl ?_
                rw [DI_int, wrap64_succ (by omega)]
                exact stV H20 fun h21 H21 => next b7 h21 H21
              | false =>
                refine LdV (v := .int .i64 (t : Int)) hbt rfl ?_
                rw [DI_int]
                refine Al_sat H18 fun b7 h19 H19 => ?_
                refine stV (v := .int .i64 (t : Int)) H19 fun h20 H20 => ?_
                refine LdV (v := .int .i64 (t : Int)) H20.get rfl ?_
                rw [DI_int, wrap64_succ (by omega)]
                exact stV H20 fun h21 H21 => next b7 h21 H21
            · rintro rfl
              rcases hp with ⟨e, _⟩ | ⟨e, _⟩ <;> cases e
            · rintro rfl
              have ht0 : t = 0 := by
                rcases hp with ⟨e, _⟩ | ⟨_, ht0⟩
                · cases e
                · exact ht0
              subst ht0
              refine LdV (v := .int .i64 ((0 : Nat) : Int)) hbt rfl ?_
              rw [DI_int, show ((((0 : Nat) : Int)) == 1) = false from rfl, cond_false]
              refine LdV (v := .int .i64 ((0 : Nat) : Int)) hbt rfl ?_
              rw [DI_int]
              refine Al_sat H18 fun b7 h19 H19 => ?_
              refine stV (v := .int .i64 ((0 : Nat) : Int)) H19 fun h20 H20 => ?_
              refine LdV (v := .int .i64 ((0 : Nat) : Int)) H20.get rfl ?_
              rw [DI_int, wrap64_succ (by omega)]
              exact stV H20 fun h21 H21 => next b7 h21 H21
        · rw [decide_eq_false (show ¬ ((t : Int) < 2) by omega), cond_false]
          have K := H11.ord [5, 1, 8]
          refine stV (v := .bool true) K fun h12 H12 => ?_
          refine leave_sat (H12.mv 1) fun h13 H13 => ?_
          refine LdV (v := .bool true) H13.get rfl ?_
          rw [DB_bool]
          exact good_of H13.drop

end Go.Proofs.Ytpblcdgglbhdoaa
