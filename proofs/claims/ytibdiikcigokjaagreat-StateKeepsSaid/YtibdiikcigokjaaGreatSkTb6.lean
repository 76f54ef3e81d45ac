/- Tables or none; what changed, as the program finds it (seat T). -/
import Derived.Test.YtibdiikcigokjaaGreatSkTb4
namespace Go.Proofs.YtibdiikcigokjaaGreat.TS
open Go Go.RowKit
open Tb (T get set del Up Has)
open AF (ltB strLt_irrefl strLt_trans strLt_total)
set_option linter.unusedVariables false
set_option linter.unusedSimpArgs false

/-- A table, or none. -/
def tabZ (p : Option Addr) (l : T VT) : HProp := fun r => (p = none ∧ l = [] ∧ emp r) ∨ ∃ b, p = some ⟨b, 0, none⟩ ∧ tabP b l r
section
variable {p : Option Addr} {l : T VT} {F : List HProp} {h : Heap}
theorem tabZ_cases (H : sat (tabZ p l :: F) h) : (p = none ∧ l = [] ∧ sat F h) ∨ ∃ b, p = some ⟨b, 0, none⟩ ∧ sat (tabP b l :: F) h := by
  obtain ⟨r, ⟨r1, r2, hd, rfl, h1, h2⟩, hs⟩ := H
  rcases h1 with ⟨hp, hl, he⟩ | ⟨b, hp, ht⟩
  · exact .inl ⟨hp, hl, r2, h2, fun b x hx => hs b x (union_right hd hx)⟩
  · exact .inr ⟨b, hp, _, ⟨r1, r2, hd, rfl, ht, h2⟩, hs⟩
theorem tabZ_some {b : Nat} (H : sat (tabP b l :: F) h) : sat (tabZ (some ⟨b, 0, none⟩) l :: F) h := H.imp fun r hr => .inr ⟨b, rfl, hr⟩
theorem tabZ_none (H : sat F h) : sat (tabZ none [] :: F) h := by
  obtain ⟨r, hr, hs⟩ := H
  obtain ⟨r1, r2, hd, e1, h1, h2⟩ := emp_sep hr
  exact ⟨r, ⟨r1, r2, hd, e1, .inl ⟨rfl, rfl, h1⟩, h2⟩, hs⟩
theorem tabZ_up (H : sat (tabZ p l :: F) h) : Up l := by
  rcases tabZ_cases H with ⟨_, rfl, _⟩ | ⟨b, _, H1⟩
  · exact Up.nil
  · obtain ⟨q, hq, _⟩ := tab_open H1
    exact hq.has.2
theorem F55_Z {key : ByteArray} (H : sat (tabZ p l :: F) h) : CallsH Tryz.prog 55 [.pointer p, .string key] h fun v h' => v = getV l key ∧ h' = h := by
  rcases tabZ_cases H with ⟨rfl, rfl, H1⟩ | ⟨b, rfl, H1⟩
  · apply F55_ok
    unfold F55
    exact ⟨rfl, by trivial⟩
  · exact F55_spec H1
theorem F34_none (H : sat F h) : CallsH Tryz.prog 34 [.slice none 0 0] h fun v h' => ∃ b, v = ptrV b ∧ sat (tabP b [] :: F) h' :=
  F34_spec (es := []) (fun _ H' => roS_read (roS_none H')) rfl (by decide) H
theorem F109_Z (H : sat (tabZ p l :: F) h) : CallsH Tryz.prog 109 [.pointer p] h fun v h' => ∃ b', v = ptrV b' ∧ sat (tabP b' l :: tabZ p l :: F) h' := by
  rcases tabZ_cases H with ⟨rfl, rfl, H1⟩ | ⟨b, rfl, H1⟩
  · apply F109_ok
    unfold F109
    rw [show (none : Option Addr).isNone = true from rfl, cond_true]
    refine (F34_none H).mono ?_
    rintro v h' ⟨b', rfl, H2⟩
    show DP (.pointer (some ⟨b', 0, none⟩)) _
    rw [DP_pointer]
    exact ⟨b', rfl, H2⟩
  · refine (F109_spec H1).mono ?_
    rintro v h' ⟨b', rfl, H2⟩
    exact ⟨b', rfl, (tabZ_some (H2.mv 1)).mv 1⟩
theorem F115_Z {key : ByteArray} (hl : l.length < 1099511627776) (H : sat (tabZ p l :: F) h) : CallsH Tryz.prog 115 [.pointer p, .string key] h fun v h' => ∃ q b0 b1, v = seqV b0 b1 ∧ sat (seqP q b0 b1 (fromL l key) :: tabZ p l :: F) h' := by
  apply F115_ok
  unfold F115
  refine (F109_Z H).mono ?_
  rintro v h1 ⟨b2, rfl, H1⟩
  show DP (.pointer (some ⟨b2, 0, none⟩)) _
  rw [DP_pointer]
  refine (F167_spec hl H1).mono ?_
  rintro v h2 ⟨a, c, rfl, hlc, H2⟩
  rw [DSl_slice]
  obtain ⟨q, hq, H3⟩ := tab_open (H2.mv 1)
  -- tabO, ownM, tabK, roS keys, tab, F
  have hrd := roS_read (H3.mv 3)
  refine (F168_spec hq.has.2 hrd rfl hl).mono ?_
  rintro v h3 ⟨⟨z, rfl⟩, rfl⟩
  refine ⟨_, _, rfl, ?_⟩
  have hle := atL_le l key
  refine SlV_nat hle hlc (Nat.le_refl c) ?_
  refine LdC (v := .map (some q.mb)) H3 rfl ?_
  show DM (.map (some q.mb)) _
  rw [DM_map]
  have h37 : CallsH Tryz.prog 169 [.slice (subA a (atL l key) c 1) (l.length - atL l key) (c - atL l key), .map (some q.mb)] h3 fun v h' => ∃ b0 b1, v = seqV b0 b1 ∧ sat (pt b1 (.cells #[.map (some q.mb)] 175 (0, 0)) :: pt b0 (.cells #[.slice (subA a (atL l key) c 1) (l.length - atL l key) (c - atL l key)] 97 (0, 0)) :: tabO b2 q :: ownM strKeys q.mb q.m :: tabK q :: roS a ((l.map (·.1)).map Value.string) :: tabZ p l :: F) h' := by
    apply F169_ok
    unfold F169
    exact Al_sat H3 fun b0 h4 H4 => Al_sat H4 fun b1 h5 H5 => ⟨b0, b1, rfl, H5⟩
  refine h37.mono ?_
  rintro v h4 ⟨b0, b1, rfl, H4⟩
  refine ⟨_, rfl, ⟨l, q.m, q.mb, subA a (atL l key) c 1, l.length - atL l key, c - atL l key⟩, b0, b1, rfl, ?_⟩
  have hfl : (fromL l key).length = l.length - atL l key := by rw [← drop_atL, List.length_drop]
  have H5 := (H4.mv 5).imp (B := roS (subA a (atL l key) c 1) (((fromL l key).map (·.1)).map Value.string)) fun r hr => ⟨hr.1, fun h hs => by
    have h1 := (hr.2 h hs).sub (atL l key) (l.length - atL l key) c (fun e => by omega)
    rw [← drop_atL]
    rw [List.take_of_length_le (by simp)] at h1
    rwa [List.map_drop, List.map_drop]⟩
  refine seq_shut ⟨hq.has, fromL_suffix l key, hfl.symm, (by show l.length - atL l key < _; omega)⟩ ?_
  exact H5.ordT 7 [2, 1, 0, 4, 6]
theorem F46_Z (hl : l.length < 1099511627776) (H : sat (tabZ p l :: F) h) : CallsH Tryz.prog 46 [.pointer p] h fun v h' => ∃ q b0 b1, v = seqV b0 b1 ∧ sat (seqP q b0 b1 l :: tabZ p l :: F) h' := by
  apply F46_ok
  unfold F46
  refine (F115_Z (key := .empty) hl H).mono ?_
  rintro v h1 ⟨q, b0, b1, rfl, H1⟩
  rw [fromL_nil] at H1
  exact ⟨_, rfl, q, b0, b1, rfl, H1⟩
end
/-- Changes in a cell of their own. -/
def chS (b : Nat) (xs : List Ch) : HProp := exi fun q : Option Addr × Nat × Nat => Many [pur (xs.length = q.2.1), pt b (.cells #[.slice q.1 q.2.1 q.2.2] 43 (0, 0)), ownS 103 3 q.1 q.2.1 q.2.2 (xs.flatMap chC)]
section
variable {b : Nat} {xs : List Ch} {F : List HProp} {h : Heap}
theorem ch_open (H : sat (chS b xs :: F) h) : ∃ a n c, xs.length = n ∧ sat (pt b (.cells #[.slice a n c] 43 (0, 0)) :: ownS 103 3 a n c (xs.flatMap chC) :: F) h := by
  obtain ⟨q, H1⟩ := sat_exi.1 H
  obtain ⟨h1, H2⟩ := sat_pur.1 H1.open
  exact ⟨q.1, q.2.1, q.2.2, h1, H2⟩
theorem ch_shut {a : Option Addr} {n c : Nat} (hn : xs.length = n) (H : sat (pt b (.cells #[.slice a n c] 43 (0, 0)) :: ownS 103 3 a n c (xs.flatMap chC) :: F) h) : sat (chS b xs :: F) h :=
  sat_exi.2 ⟨(a, n, c), sat.shut (m := [pur (xs.length = n), pt b (.cells #[.slice a n c] 43 (0, 0)), ownS 103 3 a n c (xs.flatMap chC)]) (sat_pur.2 ⟨hn, H⟩)⟩
theorem ch_push {x : Ch} {K : Heap → Prop} (hb : xs.length < 2199023255552) (H : sat (chS b xs :: F) h) (hK : ∀ h', sat (chS b (xs ++ [x]) :: F) h' → K h') :
    Ld h (Addr.mk b 0 none) fun v => DSl v fun a l c => Al h (.cells #[.string x.1, ve x.2.1, .bool x.2.2] 103) fun b4 h6 =>
      RunH Tryz.prog (Builtin.append_ #[43, 43] 43 #[.slice a l c, .slice (some (Addr.mk b4 0 none)) 1 1]) h6 fun r h7 => DSl r fun a l c => StC h7 ((Addr.mk b 0 none).add 0) (.slice a l c) K := by
  obtain ⟨a, n, c, hn, H1⟩ := ch_open H
  refine LdV (v := .slice a n c) H1.get rfl ?_
  rw [DSl_slice]
  refine pushEl (f := chC) (sz := 3) (by_ := chB) (x := x) (by kernel_rfl) (by kernel_rfl) (by kernel_rfl) (fun _ => rfl) (fun v hv => ?_) rfl hn (by simp only [chB]; omega) (H1.mv 1) fun a' c' h' H2 => ?_
  · simp only [List.mem_cons, List.not_mem_nil, or_false] at hv
    rcases hv with rfl | rfl | rfl <;> rfl
  · refine StCC (b := b) (i := 0) (H2.mv 1) (show (0 : Nat) < 1 by decide) rfl fun h4 H4 => hK h4 ?_
    exact ch_shut (by rw [List.length_append, hn]; rfl) H4
end
theorem raw1_step {a b : T VT} {i : Nat} {p : ByteArray × VT} (hp : b[i]? = some p) : raw1 a (b.take (i + 1)) = raw1 a (b.take i) ++ if get a p.1 = some p.2 then [] else [(p.1, p.2, false)] := by
  unfold raw1
  rw [List.take_add_one, hp]
  by_cases e : get a p.1 = some p.2
  · simp [e]
  · simp [e]
theorem raw2_step {a b : T VT} {i : Nat} {p : ByteArray × VT} (hp : a[i]? = some p) : raw2 (a.take (i + 1)) b = raw2 (a.take i) b ++ if (get b p.1).isNone = true then [(p.1, vz, true)] else [] := by
  unfold raw2
  rw [List.take_add_one, hp]
  cases e : get b p.1 with
  | none => simp [e]
  | some v => simp [e]
theorem raw1_len (a b : T VT) (i : Nat) : (raw1 a (b.take i)).length ≤ b.length := by
  unfold raw1
  rw [List.length_map]
  exact Nat.le_trans (List.length_filter_le _ _) (by rw [List.length_take]; omega)
theorem raw2_len (a b : T VT) (i : Nat) : (raw2 (a.take i) b).length ≤ a.length := by
  unfold raw2
  rw [List.length_map]
  exact Nat.le_trans (List.length_filter_le _ _) (by rw [List.length_take]; omega)
theorem vne (x y : VT) : (!strEq x y) = !decide (x = y) := by rw [strEq_dec]
theorem F18_spec {a b : T VT} {pa pb : Option Addr} {F : List HProp} {h : Heap} (ha : a.length < 1099511627776) (hb : b.length < 1099511627776) (H : sat (tabZ pa a :: tabZ pb b :: F) h) :
    CallsH Tryz.prog 18 [.pointer pa, .pointer pb] h fun v h' => ∃ sa n c d, v = .slice sa n c ∧ d.length = n ∧ Diffs a b d ∧ sat (ownS 103 3 sa n c (d.flatMap chC) :: tabZ pa a :: tabZ pb b :: F) h' := by
  have Ua := tabZ_up H
  have Ub := tabZ_up (H.mv 1)
  apply F18_ok
  unfold F18
  refine Al_sat H fun b1 h1 H1 => Al_sat H1 fun b2 h2 H2 => Al_sat H2 fun b3 h3 H3 => ?_
  -- b3, b2, b1, tabA, tabB, F
  refine LdV (v := .pointer pb) (H3.mv 1).get rfl ?_
  rw [DP_pointer]
  refine (F46_Z hb (H3.mv 4)).mono ?_
  rintro v h4 ⟨q, c0, c1, rfl, H4⟩
  refine ⟨_, rfl, ?_⟩
  -- seqP, tabB, b3, b2, b1, tabA, F
  have H5 : sat (chS b3 (raw1 a (b.take 0)) :: seqP q c0 c1 b :: tabZ pb b :: pt b2 (.cells #[.pointer pb] 24 (0, 0)) :: pt b1 (.cells #[.pointer pa] 24 (0, 0)) :: tabZ pa a :: F) h4 := ch_shut rfl ((ownS_nil 103 3 (H4.mv 2)).mv 1)
  refine range_tab (fun i => chS b3 (raw1 a (b.take i)) :: tabZ pb b :: pt b2 (.cells #[.pointer pb] 24 (0, 0)) :: pt b1 (.cells #[.pointer pa] 24 (0, 0)) :: tabZ pa a :: F) (fun _ => [pur False]) (H5.mv 1) ?_ ?_ (fun j h2 H2 => (sat_pur.1 (H2.mv 1)).1.elim)
  · intro i p L rec h5 Q hp HR go _
    refine ⟨p.1, p.2, rfl, HR.get, ?_⟩
    have HB := HR.set (rec .busy none)
    -- L, markD, seqP, chS, tabB, b2, b1, tabA, F
    refine LdV (v := .pointer pa) (HB.mv 6).get rfl ?_
    rw [DP_pointer]
    refine (F55_Z (key := p.1) (HB.mv 7)).mono ?_
    rintro v h6 ⟨rfl, rfl⟩
    refine ⟨_, _, rfl, ?_⟩
    have hlen := raw1_len a b i
    have push : ∀ {h7 : Heap}, get a p.1 ≠ some p.2 → sat (chS b3 (raw1 a (b.take i) ++ [(p.1, p.2, false)]) :: pt L (rec .busy none) :: markD h4.size :: seqP q c0 c1 b :: tabZ pb b :: pt b2 (.cells #[.pointer pb] 24 (0, 0)) :: pt b1 (.cells #[.pointer pa] 24 (0, 0)) :: tabZ pa a :: F) h7 → h7[L]? = some (rec .busy none) ∧ Q (.bool true) (h7.setIfInBounds L (rec .ready none)) := fun {h7} hne H7 => by
      refine go h7 ?_
      rw [raw1_step hp, if_neg hne]
      exact H7.ordT 4 [1, 2, 3, 0]
    cases hg : get a p.1 with
    | none =>
      show cond (!(Option.isSome (none : Option VT))) _ _
      rw [show (!(Option.isSome (none : Option VT))) = true from rfl, cond_true]
      exact ch_push (x := (p.1, p.2, false)) (by omega) (HB.mv 3) fun h7 H7 => push (by rw [hg]; simp) H7
    | some y =>
      show cond (!(Option.isSome (some y))) _ _
      rw [show (!(Option.isSome (some y))) = false from rfl, cond_false]
      rw [Option.getD_some, vne]
      by_cases e : y = p.2
      · rw [decide_eq_true e, Bool.not_true, cond_false]
        refine go _ ?_
        rw [raw1_step hp, if_pos (by rw [hg, e]), List.append_nil]
        exact HB
      · rw [decide_eq_false e, Bool.not_false, cond_true]
        exact ch_push (x := (p.1, p.2, false)) (by omega) (HB.mv 3) fun h7 H7 => push (by rw [hg]; simpa using e) H7
  · intro h5 H6
    rw [List.take_of_length_le (Nat.le_refl _)] at H6
    refine ⟨rfl, ?_⟩
    -- markD, seqP, chS, tabB, b2, b1, tabA, F
    refine LdV (v := .pointer pa) (H6.mv 5).get rfl ?_
    rw [DP_pointer]
    refine (F46_Z ha (H6.mv 6)).mono ?_
    rintro v h6 ⟨q2, d0, d1, rfl, H7⟩
    refine ⟨_, rfl, ?_⟩
    -- seqP2, tabA, markD, seqP, chS, tabB, b2, b1, F
    have H8 : sat (seqP q2 d0 d1 a :: chS b3 (raw1 a b ++ raw2 (a.take 0) b) :: tabZ pb b :: pt b2 (.cells #[.pointer pb] 24 (0, 0)) :: tabZ pa a :: markD h4.size :: F) h6 := by
      rw [show raw1 a b ++ raw2 (a.take 0) b = raw1 a b from List.append_nil _]
      exact H7.ordT 8 [0, 4, 5, 6, 1, 2]
    refine range_tab (fun i => chS b3 (raw1 a b ++ raw2 (a.take i) b) :: tabZ pb b :: pt b2 (.cells #[.pointer pb] 24 (0, 0)) :: tabZ pa a :: markD h4.size :: F) (fun _ => [pur False]) H8 ?_ ?_ (fun j h2 H2 => (sat_pur.1 (H2.mv 1)).1.elim)
    · intro i p L rec h7 Q hp HR go _
      refine ⟨p.1, p.2, rfl, HR.get, ?_⟩
      have HB := HR.set (rec .busy none)
      -- L, markD, seqP, chS, tabB, b2, tabA, markD1, F
      refine LdV (v := .pointer pb) (HB.mv 5).get rfl ?_
      rw [DP_pointer]
      refine (F55_Z (key := p.1) (HB.mv 4)).mono ?_
      rintro v h8 ⟨rfl, rfl⟩
      refine ⟨_, _, rfl, ?_⟩
      have hlen1 : (raw1 a b).length ≤ b.length := by have := raw1_len a b b.length; rwa [List.take_of_length_le (Nat.le_refl _)] at this
      have hlen2 := raw2_len a b i
      cases hg : get b p.1 with
      | none =>
        show cond (!(Option.isSome (none : Option VT))) _ _
        rw [show (!(Option.isSome (none : Option VT))) = true from rfl, cond_true]
        refine ch_push (x := (p.1, vz, true)) (by rw [List.length_append]; omega) (HB.mv 3) fun h7 H7 => go h7 ?_
        rw [raw2_step hp, if_pos (by rw [hg]; rfl), ← List.append_assoc]
        exact H7.ordT 4 [1, 2, 3, 0]
      | some y =>
        show cond (!(Option.isSome (some y))) _ _
        rw [show (!(Option.isSome (some y))) = false from rfl, cond_false]
        refine go _ ?_
        rw [raw2_step hp, if_neg (by rw [hg]; simp), List.append_nil]
        exact HB
    · intro h7 H9
      rw [List.take_of_length_le (Nat.le_refl _)] at H9
      refine ⟨rfl, ?_⟩
      -- markD2, seqP2, chS, tabB, b2, tabA, markD1, F
      obtain ⟨sa, n, c, hn, H10⟩ := ch_open (H9.mv 2)
      refine LdV (v := .slice sa n c) H10.get rfl ?_
      rw [DSl_slice]
      have hlen1 := raw1_len a b b.length
      have hlen2 := raw2_len a b a.length
      rw [List.take_of_length_le (Nat.le_refl _)] at hlen1 hlen2
      rw [List.length_append] at hn
      refine (F56_spec (H10.mv 1) (by rw [List.length_append]; exact hn) (by omega)).mono ?_
      rintro v h8 ⟨rfl, ys, hperm, hs, H11⟩
      refine ⟨rfl, ?_⟩
      -- own, b3, markD2, seqP2, tabB, b2, tabA, markD1, F
      refine LdV (v := .slice sa n c) (H11.mv 1).get rfl ?_
      rw [DSl_slice]
      have H12 := (H11.mv 2).set (.deferred none)
      -- markD2', own, b3, seqP2, tabB, b2, tabA, markD1, F
      have H13 := (H12.mv 7).set (.deferred none)
      -- markD1', markD2', own, b3, seqP2, tabB, b2, tabA, F
      refine ⟨(H11.mv 2).get, (H12.mv 7).get, sa, n, c, ys, rfl, ?_, Diffs.of Ua Ub hperm hs, ?_⟩
      · rw [hperm.length_eq, List.length_append]; exact hn
      · exact H13.ordT 8 [2, 7, 5]

end Go.Proofs.YtibdiikcigokjaaGreat.TS
