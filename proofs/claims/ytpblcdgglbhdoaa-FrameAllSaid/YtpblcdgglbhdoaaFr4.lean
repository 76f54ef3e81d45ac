/- The document's scan, the comparison of lists, the example, and the laws of packing and scanning. -/
import Derived.Test.YtpblcdgglbhdoaaFr3
namespace Go.Proofs.Ytpblcdgglbhdoaa
open Go Go.RowKit
set_option linter.unusedVariables false
set_option linter.unusedSimpArgs false
open Crc (Run More)
open Frame (be4 val4 packN firstN refAt scanN reach be4_B8 val4_lt val4_take packN_length packN_B8 firstN_refAt scanN_eq firstN_some firstN_pack)

def sv (x : List Nat) : Value := .string (ofN x)
theorem scanN_B8 : ∀ (n : Nat) (x : List Nat), x.length ≤ n → B8 x → ∀ y ∈ scanN x, B8 y
  | n, x, hn, h8, y, hy => by
    rw [scanN_eq] at hy
    cases hf : firstN x with
    | none => rw [hf] at hy; cases hy
    | some b =>
      obtain ⟨_, hb2, hb3, _, _, hb8⟩ := firstN_some h8 hf
      rw [hf] at hy
      rcases List.mem_cons.1 hy with rfl | hy
      · exact hb8
      · match n with
        | 0 => omega
        | n + 1 => exact scanN_B8 n (x.drop (8 + b.length)) (by rw [List.length_drop]; omega) (h8.drop _) y hy
theorem scanN_reach : ∀ (n : Nat) (x : List Nat), x.length ≤ n → B8 x → reach (scanN x) ≤ x.length
  | n, x, hn, h8 => by
    rw [scanN_eq]
    cases hf : firstN x with
    | none => exact Nat.zero_le _
    | some b =>
      obtain ⟨_, hb2, hb3, _, _, hb8⟩ := firstN_some h8 hf
      simp only []
      match n with
      | 0 => omega
      | n + 1 =>
        have := scanN_reach n (x.drop (8 + b.length)) (by rw [List.length_drop]; omega) (h8.drop _)
        rw [List.length_drop] at this
        have e : reach (b :: scanN (x.drop (8 + b.length))) = (8 + b.length) + reach (scanN (x.drop (8 + b.length))) := rfl
        rw [e]
        omega
theorem ofN_len {x : List Nat} (h8 : B8 x) : (ofN x).size = x.length := by rw [← sb_length, sb_ofN h8]
theorem refAt_le (bs : List Nat) : (refAt bs).1.length ≤ bs.length := by
  unfold refAt
  split
  · exact Nat.zero_le _
  · split
    · exact Nat.zero_le _
    · rw [List.length_take, List.length_drop]; omega
theorem F25_spec {s : ByteArray} {h : Heap} {F : List HProp} (hF : sat F h) (hs : s.size ≤ 16777208) :
    CallsH Try.prog 25 [.string s] h fun v h' => ∃ a' c', v = .tuple #[.slice a' (scanN (sb s)).length c', .int .i64 (reach (scanN (sb s)) : Nat)] ∧ sat (ownS 9 1 a' (scanN (sb s)).length c' ((scanN (sb s)).map sv) :: F) h' := by
  apply F25_ok
  unfold F25
  have hsl := sb_length s
  have h8 := sb_B8 s
  refine ⟨fun st h1 => ∃ (done : List (List Nat)) (a : Option Addr) (c : Nat), st = (⟨a, done.length, c⟩, ((reach done : Nat) : Int), ((done.length : Nat) : Int)) ∧ reach done ≤ s.size ∧ scanN (sb s) = done ++ scanN ((sb s).drop (reach done)) ∧ sat (ownS 9 1 a done.length c (done.map sv) :: F) h1,
    fun st _ => ((s.size : Int) + 1 - st.2.2).toNat, ⟨[], none, 0, rfl, Nat.zero_le _, rfl, ownS_nil 9 1 hF⟩, ?_⟩
  rintro st h1 ⟨done, a, c, rfl, hd, hsc, H⟩
  have hcnt := scan_count (sb s) h8 done.length done rfl (by omega)
  rw [decide_eq_true (show ((done.length : Int) ≤ (s.size : Int)) by omega), cond_true]
  refine (F23_spec H hd hs).mono ?_
  rintro v h2 ⟨rfl, H2⟩
  refine ⟨_, _, rfl, ?_⟩
  have hfr := firstN_refAt (h8.drop (reach done))
  cases hok : (refAt ((sb s).drop (reach done))).2 with
  | false =>
    rw [hok] at hfr
    simp only [Bool.not_false, cond_true]
    have : scanN ((sb s).drop (reach done)) = [] := by rw [scanN_eq, hfr]; rfl
    rw [this, List.append_nil] at hsc
    rw [hsc]
    exact ⟨a, c, rfl, H2⟩
  | true =>
    rw [hok, if_pos rfl] at hfr
    obtain ⟨_, hb2, hb3, _, _, hb8⟩ := firstN_some (h8.drop _) hfr
    generalize (refAt ((sb s).drop (reach done))).1 = body at *
    rw [List.length_drop, hsl] at hb3
    simp only [Bool.not_true, cond_false]
    refine Al_sat H2 fun b h3 H3 => ?_
    have hr : RdC h3 (some ⟨b, 0, none⟩) [.string (ofN body)] := by
      intro j v hv
      rw [cell_of_pt H3.get]
      simpa using hv
    have hm1 : (done.length + 1) * 16 ≤ 140737488355328 := by omega
    refine append1 t46 s46 i9 (H3.mv 1) (srcOf_slice hr rfl) (by intro u hu; simp at hu; subst hu; rfl) hm1 fun a' c' h4 _ H4 => ?_
    rw [DSl_slice]
    have w : IntKind.wrap .i64 (IntKind.wrap .i64 (((reach done : Nat) : Int) + 8) + ((ofN body).size : Int)) = ((reach (done ++ [body]) : Nat) : Int) := by
      rw [ofN_len hb8, reach_snoc, IntWalk.i64_in (((reach done : Nat) : Int) + 8) (by omega), IntWalk.i64_in _ (by omega)]
      omega
    rw [w, wrap64_succ (by omega)]
    have hsc2 : scanN ((sb s).drop (reach done)) = body :: scanN ((sb s).drop (reach done + (8 + body.length))) := by
      rw [scanN_eq, hfr]
      simp only [List.drop_drop]
    refine ⟨⟨done ++ [body], a', c', by rw [List.length_append]; rfl, by rw [reach_snoc]; omega, ?_, ?_⟩, ?_⟩
    · rw [hsc, hsc2, reach_snoc, List.append_assoc]
      rfl
    · rw [List.map_append, List.length_append]
      exact (H4.mv 1).drop
    · show ((s.size : Int) + 1 - ((done.length + 1 : Nat) : Int)).toNat < ((s.size : Int) + 1 - (done.length : Int)).toNat
      omega

/-- A list of lists of bytes, read. -/
def RdBB (h : Heap) (a : Option Addr) (xs : List (List Nat)) : Prop :=
  ∀ i x, xs[i]? = some x → ∃ b a' l' c', a = some b ∧ cellAt h (b.add i) = some (.slice a' l' c') ∧ RdC h a' (x.map nv) ∧ x.length = l'
theorem rdBB_of {h : Heap} {F : List HProp} {e : TypeId} {a : Option Addr} {l c : Nat} {xs : List (List Nat)} (H : sat (ownL Eb e a l c xs :: F) h) : RdBB h a xs := by
  intro i x hx
  obtain ⟨v, b, hb, hc, F', H2⟩ := ownL_get H hx
  obtain ⟨a', l', c', rfl, hr, hl, _, _⟩ := Eb_get H2
  exact ⟨b, a', l', c', hb, hc, hr, hl⟩
theorem idxBB {h : Heap} {a : Option Addr} {l i : Nat} {xs : List (List Nat)} {x : List Nat} {K : Addr → Prop} (H : RdBB h a xs) (hl : xs.length = l) (hi : xs[i]? = some x)
    (hK : ∀ b a' l' c', cellAt h b = some (.slice a' l' c') → RdC h a' (x.map nv) → x.length = l' → K b) : IdxA a l (i : Int) 1 K := by
  obtain ⟨b, a', l', c', hb, hc, hr, hx⟩ := H i x hi
  have := (List.getElem?_eq_some_iff.1 hi).1
  refine ⟨b, hb, by omega, by omega, ?_⟩
  rw [Int.toNat_natCast, Nat.mul_one]
  exact hK _ a' l' c' hc hr hx
theorem F26_spec {xs ys : List (List Nat)} {a b : Option Addr} {al ac bl bc : Nat} {h : Heap} (hA : RdBB h a xs) (hal : xs.length = al) (hB : RdC h b (ys.map sv)) (hbl : ys.length = bl)
    (h8x : ∀ x ∈ xs, B8 x) (h8y : ∀ y ∈ ys, B8 y) (hm : bl < 4611686018427387904) :
    CallsH Try.prog 26 [.slice a al ac, .slice b bl bc] h fun v h' => v = .bool (decide (xs = ys)) ∧ h' = h := by
  apply F26_ok
  unfold F26
  rw [bneN]
  by_cases hl : al = bl
  · subst hl
    rw [decide_eq_false (by simp), cond_false]
    refine ⟨fun st h1 => h1 = h ∧ ∃ i : Nat, st = (i : Int) ∧ i ≤ al ∧ xs.take i = ys.take i, fun st _ => ((al : Int) - st).toNat, ⟨rfl, 0, rfl, Nat.zero_le _, rfl⟩, ?_⟩
    rintro st h1 ⟨rfl, i, rfl, hi, hp⟩
    by_cases hlt : i < al
    · rw [decide_eq_true (show ((i : Int) < (al : Int)) by omega), cond_true]
      obtain ⟨x, hx⟩ : ∃ x, xs[i]? = some x := ⟨_, List.getElem?_eq_getElem (by omega)⟩
      obtain ⟨y, hy⟩ : ∃ y, ys[i]? = some y := ⟨_, List.getElem?_eq_getElem (by omega)⟩
      have hx8 := h8x x (List.mem_of_getElem? hx)
      have hy8 := h8y y (List.mem_of_getElem? hy)
      refine idxBB hA hal hx fun b1 a' l' c' hc hr hxl => ⟨_, hc, ?_⟩
      show DSl (.slice a' l' c') _
      rw [DSl_slice]
      refine ⟨ofN x, bytesIn_of hr hxl hx8, ?_⟩
      refine IdxA_nat (v := sv y) hB (by rw [List.length_map]; exact hbl) (by rw [List.getElem?_map, hy]; rfl) fun b2 hb2 hc2 => ⟨_, hc2, ?_⟩
      show DS (.string (ofN y)) _
      rw [DS_string, strEq_eq, sb_ofN hx8, sb_ofN hy8]
      by_cases he : x = y
      · subst he
        simp only [decide_true, Bool.not_true, cond_false]
        rw [wrap64_succ (by omega)]
        refine ⟨⟨trivial, i + 1, rfl, by omega, ?_⟩, by omega⟩
        rw [List.take_add_one, List.take_add_one, hx, hy, hp]
      · rw [decide_eq_false he]
        have : ¬ xs = ys := fun e => by
          rw [e, hy] at hx
          simp only [Option.some.injEq] at hx
          exact he hx.symm
        rw [decide_eq_false this]
        exact ⟨rfl, rfl⟩
    · have : i = al := by omega
      subst this
      rw [decide_eq_false (by omega), cond_false]
      rw [List.take_of_length_le (by omega), List.take_of_length_le (by omega)] at hp
      rw [decide_eq_true hp]
      exact ⟨rfl, rfl⟩
  · rw [decide_eq_true hl, cond_true]
    have : ¬ xs = ys := fun e => hl (by rw [← hal, ← hbl, e])
    rw [decide_eq_false this]
    exact ⟨rfl, rfl⟩

theorem F19_spec {h : Heap} {F : List HProp} (hF : sat F h) : CallsH Try.prog 19 [] h fun v h' => v = .bool true ∧ sat F h' := by
  apply F19_ok
  unfold F19
  have h8 : B8 [97, 98] := by intro n hn; simp at hn; omega
  refine Al_sat hF fun b1 h1 H1 => ?_
  refine convBytes_sat t26 t5 H1 fun h2 H2 => ?_
  rw [DSl_slice]
  have hR : ∀ h' : Heap, sat (pt b1 (.cells #[.int .u8 97, .int .u8 98] 5 (2, 3)) :: F) h' → RdC h' (some ⟨b1, 0, none⟩) (([97, 98] : List Nat).map nv) := by
    intro h' H j v hv
    rw [cell_of_pt H.get]
    simpa [nv] using hv
  refine (F20_spec (l := 2) H2 hR h8 rfl (by decide)).mono ?_
  rintro v h3 ⟨b3, c3, rfl, H3⟩
  refine ⟨_, _, _, _, rfl, ?_⟩
  rw [show ((0 : Int) != 0) = false from rfl, cond_false]
  rw [show (((8 + 2 : Nat) : Int) != 10) = false from rfl, cond_false]
  have hp8 := packN_B8 h8
  obtain ⟨_, hlc, hcm⟩ := ownS_len H3
  refine (F22_spec H3 (ownS_read H3) hp8 rfl hlc hcm (by decide)).mono ?_
  rintro v h4 ⟨a4, l4, c4, e4, rfl, hcase⟩
  refine ⟨_, _, _, _, rfl, ?_⟩
  have hfp : firstN (packN [97, 98]) = some [97, 98] := by
    have := firstN_pack h8 (by decide) []
    rwa [List.append_nil] at this
  rcases hcase with ⟨body, hb, hbl, rfl, rfl, H4⟩ | ⟨hno, _⟩
  · rw [hfp] at hb
    simp only [Option.some.injEq] at hb
    subst hb
    refine Al_sat H4 fun b5 h5 H5 => ?_
    have hr5 : RdC h5 (some ⟨b5, 0, none⟩) (([7] : List Nat).map nv) := by
      intro j v hv
      rw [cell_of_pt H5.get]
      simpa [nv] using hv
    refine appB t26 s26 i5 (H5.mv 2) (srcB hr5 rfl) (by decide) fun a6 c6 h6 _ H6 => ?_
    rw [DSl_slice]
    have h87 : B8 (packN [97, 98] ++ [7]) := hp8.append (by intro n hn; simp at hn; omega)
    refine (F24_spec H6 (fun h' H => ownS_read H) h87 rfl (by decide)).mono ?_
    rintro v h7 ⟨a7, c7, rfl, H7⟩
    refine ⟨_, _, _, _, rfl, ?_⟩
    have hsc : scanN (packN [97, 98] ++ [7]) = [[97, 98]] := by
      rw [Frame.scanN_pack h8 (by decide)]
      congr 1
    rw [hsc] at H7 ⊢
    rw [show ((0 : Int) == 0) = true from rfl, cond_true]
    refine ⟨ofN [97, 98], bytesIn_of (ownS_read (H7.mv 3)) rfl h8, ?_⟩
    rw [show strEq (ofN [97, 98]) ⟨#[97, 98]⟩ = true from by rw [strEq_eq, sb_ofN h8]; rfl, cond_true]
    refine ⟨by rfl, ?_⟩
    exact H7.drop.drop.drop.drop.drop
  · exact absurd rfl (hno _ hfp)

theorem FrameScans_law (s : ByteArray) (h : Heap) : CallsH Try.prog 8 [.string s] h (Good h) := by
  apply F8_ok
  unfold F8
  refine (F19_spec (sat_old h)).mono ?_
  rintro v h1 ⟨rfl, H1⟩
  rw [DB_bool]
  cases hsz : decide ((s.size : Int) > 4000) with
  | true => exact good_of H1
  | false =>
    have hle : s.size ≤ 4000 := by have := of_decide_eq_false hsz; omega
    simp only [Bool.not_true, cond_false]
    refine bytesOfB t9 t26 t5 (show s.size ≤ maxLen by unfold maxLen; omega) H1 fun b c h2 H2 => ?_
    rw [DSl_slice]
    refine (F24_spec H2 (fun h' H => ownS_read H) (sb_B8 s) (sb_length s) (by omega)).mono ?_
    rintro v h3 ⟨a3, c3, rfl, H3⟩
    refine ⟨_, _, _, _, rfl, ?_⟩
    refine (F25_spec H3 (by omega)).mono ?_
    rintro v h4 ⟨a4, c4, rfl, H4⟩
    refine ⟨_, _, _, _, rfl, ?_⟩
    have h8 := scanN_B8 _ (sb s) (Nat.le_refl _) (sb_B8 s)
    have hlen : (scanN (sb s)).length < 4611686018427387904 := by
      have := (ownS_len H4).1
      have hc := scan_count (sb s) (sb_B8 s) (scanN (sb s)).length (scanN (sb s)) rfl
      have := hc (scanN_reach _ (sb s) (Nat.le_refl _) (sb_B8 s))
      rw [sb_length] at this
      omega
    refine (F26_spec (rdBB_of (H4.mv 1)) rfl (ownS_read H4) rfl h8 h8 hlen).mono ?_
    rintro v h5 ⟨rfl, rfl⟩
    rw [DB_bool]
    simp only [decide_true, cond_true, beq_self_eq_true]
    exact good_of (((H4.drop).drop).drop)

theorem FramePacks_law (s t : ByteArray) (h : Heap) : CallsH Try.prog 7 [.string s, .string t] h (Good h) := by
  apply F7_ok
  unfold F7
  refine (F19_spec (sat_old h)).mono ?_
  rintro v h1 ⟨rfl, H1⟩
  rw [DB_bool]
  cases hsz : decide ((s.size : Int) > 4000) with
  | true => exact good_of H1
  | false =>
    have hle : s.size ≤ 4000 := by have := of_decide_eq_false hsz; omega
    cases htz : decide ((t.size : Int) > 4000) with
    | true => exact good_of H1
    | false =>
      have hlt : t.size ≤ 4000 := by have := of_decide_eq_false htz; omega
      simp only [Bool.not_true, cond_false]
      refine bytesOfB t9 t26 t5 (show s.size ≤ maxLen by unfold maxLen; omega) H1 fun b c h2 H2 => ?_
      rw [DSl_slice]
      refine (F20_spec H2 (fun h' H => ownS_read H) (sb_B8 s) (sb_length s) (by omega)).mono ?_
      rintro v h3 ⟨b3, c3, rfl, H3⟩
      refine ⟨_, _, _, _, rfl, ?_⟩
      refine (F21_spec H3 (by omega)).mono ?_
      rintro v h4 ⟨rfl, H4⟩
      refine ⟨_, _, rfl, ?_⟩
      refine bytesOfB t9 t26 t5 (show t.size ≤ maxLen by unfold maxLen; omega) H4 fun b5 c5 h5 H5 => ?_
      rw [DSl_slice]
      obtain ⟨_, hlc5, hcm5⟩ := ownS_len H5
      refine (F22_spec H5 (ownS_read H5) (sb_B8 t) (sb_length t) hlc5 hcm5 (by omega)).mono ?_
      rintro v h6 ⟨a6, l6, c6, e6, rfl, hcase⟩
      refine ⟨_, _, _, _, rfl, ?_⟩
      have hst : ∃ xs6 : List Nat, B8 xs6 ∧ l6 = xs6.length ∧ sat (ownS 5 1 a6 l6 c6 (xs6.map nv) :: ownS 5 1 (some ⟨b5, 0, none⟩) t.size c5 ((sb t).map nv) :: ownS 5 1 (some b3) (8 + s.size) c3 ((packN (sb s)).map nv) :: ownS 5 1 (some ⟨b, 0, none⟩) s.size c ((sb s).map nv) :: old h :: []) h6 ∧
          ((firstN (sb t) = some xs6 ∧ xs6.length + 8 = t.size ∧ e6 = 0) ∨ ((∀ body, firstN (sb t) = some body → body.length + 8 ≠ t.size) ∧ e6 = 52 ∧ l6 = 0)) := by
        rcases hcase with ⟨body, hb, hbl, he, hl6, H6⟩ | ⟨hno, he, hl6, H6⟩
        · exact ⟨body, (firstN_some (sb_B8 t) hb).2.2.2.2.2, hl6, H6, .inl ⟨hb, hbl, he⟩⟩
        · exact ⟨[], (by intro n hn; cases hn), hl6, H6, .inr ⟨hno, he, hl6⟩⟩
      obtain ⟨xs6, h86, hl6, H6, hcase⟩ := hst
      refine (F23_spec (p := 0) H6 (Nat.zero_le _) (by omega)).mono ?_
      rintro v h7 ⟨rfl, H7⟩
      refine ⟨_, _, rfl, ?_⟩
      rw [List.drop_zero]
      refine ⟨ofN (packN (sb s)), bytesIn_of (ownS_read (H7.mv 2)) (by rw [packN_length, sb_length]) (packN_B8 (sb_B8 s)), ?_⟩
      rw [show strEq (ofN (packN (sb s))) (ofN (packN (sb s))) = true from by rw [strEq_eq]; simp, Bool.not_true, cond_false]
      rw [show ((0 : Int) != 0) = false from rfl, cond_false]
      have hfr := firstN_refAt (sb_B8 t)
      have hG : Good h (.bool true) h7 := good_of (H7.drop.drop.drop.drop)
      cases hok : (refAt (sb t)).2 with
      | false =>
        rw [hok] at hfr
        simp only [Bool.not_false, cond_true]
        rcases hcase with ⟨hb, _, _⟩ | ⟨_, rfl, hl0⟩
        · rw [hb] at hfr; cases hfr
        · rw [show ((52 : Int) == 52) = true from rfl, cond_true, hl0]
          exact hG
      | true =>
        rw [hok, if_pos rfl] at hfr
        obtain ⟨_, hb2, hb3, _, _, hb8⟩ := firstN_some (sb_B8 t) hfr
        rw [sb_length] at hb3
        simp only [Bool.not_true, cond_false]
        have w : IntKind.wrap .i64 (((ofN (refAt (sb t)).1).size : Int) + 8) = (((refAt (sb t)).1.length + 8 : Nat) : Int) := by
          rw [ofN_len hb8, IntWalk.i64_in _ (by omega)]
          omega
        rw [w, bneN]
        rcases hcase with ⟨hb, hbl, rfl⟩ | ⟨hno, rfl, hl0⟩
        · rw [hb] at hfr
          simp only [Option.some.injEq] at hfr
          rw [← hfr, decide_eq_false (by simpa using hbl), cond_false, show ((0 : Int) == 0) = true from rfl, cond_true]
          refine ⟨ofN xs6, bytesIn_of (ownS_read H7) hl6.symm h86, ?_⟩
          rw [show strEq (ofN xs6) (ofN xs6) = true from by rw [strEq_eq]; simp]
          exact hG
        · rw [decide_eq_true (hno _ hfr), cond_true, show ((52 : Int) == 52) = true from rfl, cond_true, hl0]
          exact hG

end Go.Proofs.Ytpblcdgglbhdoaa
