/- Load (seat S). -/
import Derived.Test.YtibdiikcigokjaaGreatSkSt8
namespace Go.Proofs.YtibdiikcigokjaaGreat
open Go Go.RowKit Go.MapKept
set_option linter.unusedVariables false
set_option linter.unusedSimpArgs false
open AF (nmI IdOk Live Has Upd Dirc ltB)
open TS (Ch chC Diffs appL VT tabZ tabP)

def loadT (s0 t0 : Option Addr) (v0 at_0 : Int) (h_4 : Heap) (Q : Value → Heap → Prop) : Prop :=
  LoopH (fun again3 (s4 : Option Addr × Int) h_19 =>
                (bif decide ((s4.2 : Int) ≤ v0) then
                  CallsH Tryz.prog 36 [.string ⟨#[100]⟩, .int .i64 s4.2] h_19 fun r14 h_20 =>
                  DS r14 fun x14 =>
                  CallsH Tryz.prog 35 [.pointer s0, .string x14] h_20 fun r15 h_21 =>
                  ∃ (x15a : Option Addr), ∃ (x15l : Nat), ∃ (x15c : Nat), ∃ (x16 : Int), r15 = .tuple #[.slice x15a x15l x15c, .int .i64 x16] ∧
                  (bif (x16 : Int) != 0 then
                    Q (.tuple #[.pointer none, .int .i64 x16]) h_21
                  else
                    CallsH Tryz.prog 40 [.slice x15a x15l x15c] h_21 fun r16 h_22 =>
                    ∃ (x17a : Option Addr), ∃ (x17l : Nat), ∃ (x17c : Nat), ∃ (x18 : Bool), r16 = .tuple #[.slice x17a x17l x17c, .bool x18] ∧
                    (bif !x18 then
                      Q (.tuple #[.pointer none, .int .i64 181]) h_22
                    else
                      CallsH Tryz.prog 41 [.pointer s4.1, .slice x17a x17l x17c] h_22 fun r17 h_23 =>
                      DP r17 fun t2 =>
                      again3 (t2, IntKind.wrap .i64 (s4.2 + 1)) h_23))
                else
                  Q (.tuple #[.pointer s4.1, .int .i64 0]) h_19)) (t0, IntKind.wrap .i64 (at_0 + 1)) h_4

/-- What a store's files say: the versions. -/
structure CntOk (S : Sto) (c : Cnt) (G : Int → Tb.T VT) : Prop where
  zero : G 0 = []
  up : ∀ k, Tb.Up (G k)
  small : ∀ k, (G k).length ≤ 100000
  delta : ∀ p ∈ S.D, ∃ d, Diffs (G (p.1 - 1)) (G p.1) d ∧ c 100 p.1 = chPairs d
  snap : ∀ p ∈ S.N, c 110 p.1 = G p.1
theorem chOk_of {a b : Tb.T VT} {d : List Ch} (D : Diffs a b d) : ChOk d := by
  refine ⟨fun x hx hg => ?_, D.up⟩
  have h1 : Tb.get (V := VT × Bool) d x.1 = some x.2 := Tb.get_of D.up.nodup hx
  rw [D.at_] at h1
  unfold TS.dget at h1
  split at h1
  · split at h1
    · cases h1
    · have := Option.some.inj h1
      rw [← this] at hg
      cases hg
  · split at h1
    · have := Option.some.inj h1
      rw [← this]
    · cases h1
theorem set_snoc {V : Type} {k : ByteArray} {v : V} : ∀ {l : Tb.T V}, (∀ p ∈ l, ltB p.1 k = true) → Tb.set k v l = l ++ [(k, v)]
  | [], _ => rfl
  | p :: l, h => by
    have h1 := h p (List.mem_cons_self ..)
    unfold Tb.set
    rw [if_neg (Tb.lt_ne h1), if_neg (fun h2 => AF.strLt_irrefl _ (AF.strLt_trans h1 h2)), set_snoc (fun q hq => h q (List.mem_cons_of_mem _ hq))]
    rfl
theorem take_below {V : Type} {l : Tb.T V} (hu : Tb.Up l) {i : Nat} {p : ByteArray × V} (hp : l[i]? = some p) : ∀ q ∈ l.take i, ltB q.1 p.1 = true := by
  intro q hq
  obtain ⟨j, hj⟩ := List.mem_iff_getElem?.1 hq
  rw [List.getElem?_take] at hj
  split at hj
  · rename_i hji
    obtain ⟨b1, c1⟩ := List.getElem?_eq_some_iff.1 hj
    obtain ⟨b2, c2⟩ := List.getElem?_eq_some_iff.1 hp
    have := List.pairwise_iff_getElem.1 hu j i b1 b2 hji
    rw [c1, c2] at this
    exact this
  · cases hj
theorem nearL_facts (l : List Int) (v : Int) (hv : 0 ≤ v) : 0 ≤ nearL l v ∧ nearL l v ≤ v ∧ (nearL l v = 0 ∨ nearL l v ∈ l) ∧ ∀ x ∈ l, x ≤ v → x ≤ nearL l v := by
  unfold nearL
  obtain ⟨h1, h2, h3⟩ := foldl_max_from (l.filter fun n => decide (n ≤ v)) 0
  refine ⟨by omega, ?_, ?_, fun x hx hxv => h2 x (List.mem_filter.2 ⟨hx, by simpa using hxv⟩)⟩
  · rcases h3 with h3 | h3
    · omega
    · have := (List.mem_filter.1 h3).2
      simpa using this
  · rcases h3 with h3 | h3
    · exact .inl h3
    · exact .inr (List.mem_filter.1 h3).1
section
variable {F : List HProp} {h : Heap} {b fsb : Nat} {S : Sto} {A : AF.FS} {T : Dirc} {c : Cnt} {G : Int → Tb.T VT}
set_option maxHeartbeats 1000000 in
theorem loadT_spec {t : Nat} {v at_ : Int} (I : SF S T c) (W : A.WF) (L : Live (AF.er A)) (Hs : Has (AF.er A) S.dir T) (C : CntOk S c G) (hd : S.dir.size < 4611686018427387904) (h0 : 0 ≤ at_) (hav : at_ ≤ v) (hv : v ≤ 1099511627776) (hall : ∀ k, at_ < k → k ≤ v → (k, ()) ∈ S.D)
    (H : sat (tabP t (G at_) :: stoM b fsb S :: fsP fsb A :: F) h) {Q : Value → Heap → Prop} (hQ : ∀ t' h', sat (tabP t' (G v) :: stoM b fsb S :: fsP fsb A :: F) h' → Q (.tuple #[ptrV t', .int .i64 0]) h') : loadT (some ⟨b, 0, none⟩) (some ⟨t, 0, none⟩) v at_ h Q := by
  unfold loadT
  refine LoopH.by (fun (s : Option Addr × Int) h' => ∃ (t' : Nat) (k : Int), s = (some ⟨t', 0, none⟩, k + 1) ∧ at_ ≤ k ∧ k ≤ v ∧ sat (tabP t' (G k) :: stoM b fsb S :: fsP fsb A :: F) h') (fun s => (v + 1 - s.2).toNat)
    ⟨t, at_, by rw [IntWalk.i64_in _ (by omega)], Int.le_refl _, hav, H⟩ ?_
  rintro s h1 again ⟨t', k, rfl, hk1, hk2, H1⟩ go
  dsimp only
  by_cases hkv : k + 1 ≤ v
  · rw [decide_eq_true hkv, cond_true]
    have hm := hall (k + 1) (by omega) hkv
    obtain ⟨d, hD, hc⟩ := C.delta _ hm
    simp only at hD hc
    rw [show k + 1 - 1 = k by omega] at hD
    have hg : A.get S.dir (nmI 100 (k + 1)) = .ok (pairsN (c 100 (k + 1))) := I.getD L Hs hm
    have hfit := I.fitD _ hm
    simp only at hfit
    rw [hc] at hg hfit
    have hdl : d.length ≤ 1000000 := by have := hfit.2.1; unfold chPairs at this; rwa [List.length_map] at this
    have hks : ∀ x ∈ d, x.1.size ≤ 1000000 := fun x hx => by
      have := (hfit.2.2 (chPair x) (List.mem_map.2 ⟨x, hx, rfl⟩)).1
      unfold chPair at this
      split at this <;> simp only [ByteArray.size_append] at this <;> omega
    refine (F36_spec (c := 100) (n := k + 1) sgD rfl H1).mono ?_
    rintro r h2 ⟨rfl, H2⟩
    rw [DS_string]
    refine (F35_spec (name := nmI 100 (k + 1)) W hd (by rw [size_nmI]; decide) hfit hg (H2.ordT 3 [1, 2, 0])).mono ?_
    rintro r h3 ⟨pa, pc, rfl, H3⟩
    refine ⟨pa, (chPairs d).length, pc, 0, rfl, ?_⟩
    rw [show ((0 : Int) != 0) = false from rfl, cond_false]
    -- pairs, sto, fs, tab, F
    refine (F40_spec (F := ownS 50 2 pa (chPairs d).length pc ((chPairs d).flatMap pairC) :: stoM b fsb S :: fsP fsb A :: tabP t' (G k) :: F) (d := d) (chOk_of hD) (fun h' hh => ownS_read hh) (by unfold chPairs; rw [List.length_map]) (by unfold chPairs; rw [List.length_map]; exact hdl) hks H3).mono ?_
    rintro r h4 ⟨oa, rfl, H4⟩
    have hpl : (chPairs d).length = d.length := by unfold chPairs; rw [List.length_map]
    rw [hpl] at H4 ⊢
    refine ⟨some oa, d.length, d.length, true, rfl, ?_⟩
    rw [Bool.not_true, cond_false]
    -- ch, pairs, sto, fs, tab, F
    have H5 := TS.tabZ_some (H4.mv 4)
    -- tabZ, ch, pairs, sto, fs, F
    refine (TS.F41_spec (F := ownS 103 3 (some oa) d.length d.length (d.flatMap chC) :: ownS 50 2 pa d.length pc ((chPairs d).flatMap pairC) :: stoM b fsb S :: fsP fsb A :: F) (es := d) (fun h' hh => ownS_read hh) rfl (by omega) H5).mono ?_
    rintro r h5 ⟨t2, rfl, H6⟩
    rw [TS.apply_diff (C.up _) (C.up _) hD] at H6
    refine ⟨some ⟨t2, 0, none⟩, rfl, ?_⟩
    have hw : IntKind.wrap .i64 (k + 1 + 1) = k + 1 + 1 := IntWalk.i64_in _ (by omega)
    rw [hw]
    -- tab', tabZ, ch, pairs, sto, fs
    exact go _ _ ⟨t2, k + 1, rfl, by omega, hkv, H6.ordT 6 [0, 4, 5]⟩ (by simp only; omega)
  · rw [decide_eq_false hkv, cond_false]
    have e : k = v := by omega
    subst e
    exact hQ t' h1 H1
/-- What a Load comes to. -/
def LoadPost (b fsb : Nat) (S : Sto) (A : AF.FS) (G : Int → Tb.T VT) (v : Int) (F : List HProp) (r : Value) (h' : Heap) : Prop :=
  ((∀ k, nearL (S.N.map (·.1)) v < k → k ≤ v → (k, ()) ∈ S.D) ∧ ∃ t, r = .tuple #[ptrV t, .int .i64 0] ∧ sat (tabP t (G v) :: stoM b fsb S :: fsP fsb A :: F) h') ∨
  (¬ (∀ k, nearL (S.N.map (·.1)) v < k → k ≤ v → (k, ()) ∈ S.D) ∧ r = .tuple #[.pointer none, .int .i64 180] ∧ sat (stoM b fsb S :: fsP fsb A :: F) h')
set_option maxHeartbeats 1000000 in
theorem F8_fz {v : Int} (I : SF S T c) (W : A.WF) (L : Live (AF.er A)) (Hs : Has (AF.er A) S.dir T) (C : CntOk S c G) (hd : S.dir.size < 4611686018427387904) (hv : 0 ≤ v) (hv2 : v ≤ 1099511627776) (H : sat (stoM b fsb S :: fsP fsb A :: F) h) :
    CallsH Tryz.prog 8 [ptrV b, .int .i64 v] h (LoadPost b fsb S A G v F) := by
  apply F8_ok
  unfold F8
  rw [show (some (⟨b, 0, none⟩ : Addr)).isNone = false from rfl, cond_false, decide_eq_false (show ¬ v < 0 by omega), cond_false, decide_eq_false (show ¬ v > 1099511627776 by omega), cond_false]
  refine (F33_spec (v := v) H).mono ?_
  rintro r h1 ⟨rfl, H1⟩
  obtain ⟨n0, n1, n2, _⟩ := nearL_facts (S.N.map (·.1)) v hv
  generalize hat_ : nearL (S.N.map (·.1)) v = at_ at n0 n1 n2 ⊢
  rw [DI_int]
  refine LoopH.by (fun (s : Int) h' => ∃ k : Int, s = k + 1 ∧ at_ ≤ k ∧ k ≤ v ∧ (∀ j, at_ < j → j ≤ k → (j, ()) ∈ S.D) ∧ sat (stoM b fsb S :: fsP fsb A :: F) h') (fun s => (v + 1 - s).toNat)
    ⟨at_, by rw [IntWalk.i64_in _ (by omega)], Int.le_refl _, n1, fun j h1 h2 => by omega, H1⟩ ?_
  rintro s h2 again ⟨k, rfl, hk1, hk2, hall, H2⟩ go
  by_cases hkv : k + 1 ≤ v
  · rw [decide_eq_true hkv, cond_true, NN'_some]
    obtain ⟨dm, nm, H3⟩ := stoM_open H2
    refine LdMp (x := dm) H3 rfl ?_
    obtain ⟨es, f, h3, h4, h5, h6⟩ := tab_look (H3.mv 1) (k + 1)
    refine ⟨es, h3, f, h5, ?_⟩
    rcases h6 with ⟨rfl, hg⟩ | ⟨j, x, y, rfl, hg, hB⟩
    · refine ⟨rfl, ?_⟩
      refine Al_sat H2 fun b0 h7 H7 => ?_
      rw [show (!(Option.isSome (none : Option (Nat × Value)))) = true from rfl, cond_true]
      refine Or.inr ⟨fun hh => ?_, rfl, H7.drop⟩
      have := hh (k + 1) (by rw [hat_]; omega) hkv
      rw [mem_getT I.upD this] at hg
      cases hg
    · have hx : x = .agg #[] := hB
      subst hx
      refine ⟨rfl, ?_⟩
      refine Al_sat H2 fun b0 h7 H7 => ?_
      rw [show (!(Option.isSome (some (j, Value.agg #[])))) = false from rfl, cond_false]
      have hw : IntKind.wrap .i64 (k + 1 + 1) = k + 1 + 1 := IntWalk.i64_in _ (by omega)
      rw [hw]
      refine go _ _ ⟨k + 1, rfl, by omega, hkv, fun j h1 h2 => ?_, H7.drop⟩ (by omega)
      by_cases e : j = k + 1
      · rw [e]; exact getT_mem hg
      · exact hall j h1 (by omega)
  · rw [decide_eq_false hkv, cond_false]
    have e : k = v := by omega
    subst e
    refine (TS.F34_none H2).mono ?_
    rintro r h3 ⟨t, rfl, H3⟩
    refine ⟨some ⟨t, 0, none⟩, rfl, ?_⟩
    dsimp only
    by_cases hat : at_ = 0
    · subst hat
      rw [show (decide ((0 : Int) > 0)) = false from rfl, cond_false]
      rw [← C.zero] at H3
      exact loadT_spec I W L Hs C hd n0 n1 hv2 hall H3 (Q := LoadPost b fsb S A G k F) fun t' h' H' => Or.inl ⟨by rw [hat_]; exact hall, t', rfl, H'⟩
    · rw [decide_eq_true (show at_ > 0 by omega), cond_true]
      have hm : (at_, ()) ∈ S.N := memU (n2.resolve_left hat)
      have hc := C.snap _ hm
      simp only at hc
      have hg : A.get S.dir (nmI 110 at_) = .ok (pairsN (c 110 at_)) := I.getN L Hs hm
      have hfit := I.fitN _ hm
      simp only at hfit
      rw [hc] at hg hfit
      have hgl := hfit.2.1
      -- tab, sto, fs, F
      refine (F36_spec (c := 110) (n := at_) sgN rfl H3).mono ?_
      rintro r h4 ⟨rfl, H4⟩
      rw [DS_string]
      refine (F35_spec (name := nmI 110 at_) W hd (by rw [size_nmI]; decide) hfit hg (H4.ordT 3 [1, 2, 0])).mono ?_
      rintro r h5 ⟨pa, pc, rfl, H5⟩
      refine ⟨pa, (G at_).length, pc, 0, rfl, ?_⟩
      rw [show ((0 : Int) != 0) = false from rfl, cond_false]
      -- pairs, sto, fs, tab, F
      refine (F37_spec (F := ownS 50 2 pa (G at_).length pc ((G at_).flatMap pairC) :: stoM b fsb S :: fsP fsb A :: tabP t [] :: F) (ps := G at_) (fun h' hh => ownS_read hh) rfl (by omega) (C.up at_) H5).mono ?_
      rintro r h6 ⟨rfl, H6⟩
      rw [DB_bool, Bool.not_true, cond_false]
      refine LoopH.upto (G at_).length (fun i (s : Int) h' => s = (i : Int) ∧ i ≤ (G at_).length ∧ sat (tabP t ((G at_).take i) :: ownS 50 2 pa (G at_).length pc ((G at_).flatMap pairC) :: stoM b fsb S :: fsP fsb A :: F) h') (fun s => (G at_).length - s.toNat) (fun i s h' hh => ⟨hh.2.1, by rw [hh.1]; omega⟩)
        ⟨rfl, Nat.zero_le _, H6.ordT 4 [3, 0, 1, 2]⟩ ?_ ?_
      · rintro i s h7 again1 hi ⟨rfl, _, H7⟩ go1
        rw [decide_eq_true (show ((i : Int) < ((G at_).length : Int)) by omega), cond_true]
        obtain ⟨⟨kk, xx⟩, hx⟩ : ∃ x, (G at_)[i]? = some x := ⟨_, List.getElem?_eq_getElem hi⟩
        refine IdxC (f := pairC) (sz := 2) pairC_len (by decide) (ownS_read (H7.mv 1)) rfl hx fun b1 hb1 hc1 => ?_
        refine ⟨.string kk, hc1 0 _ rfl, .string xx, hc1 1 _ rfl, kk, xx, rfl, ?_⟩
        refine Al_sat H7 fun b0 h8 H8 => ?_
        refine StCC H8 (show 0 < 2 by decide) rfl fun h9 H9 => ?_
        refine StCC (i := 1) H9 (show 1 < 2 by decide) rfl fun h10 H10 => ?_
        have H11 : sat (pt b0 (.cells #[.string kk, .string xx] 50 (0, 0)) :: tabP t ((G at_).take i) :: ownS 50 2 pa (G at_).length pc ((G at_).flatMap pairC) :: stoM b fsb S :: fsP fsb A :: F) h10 := H10
        refine LdStr (x := kk) H11 rfl ?_
        refine LdStr (i := 1) (x := xx) H11 rfl ?_
        refine (TS.F39_spec (key := kk) (x := xx) (H11.mv 1)).mono ?_
        rintro r h12 ⟨rfl, H12⟩
        refine ⟨rfl, ?_⟩
        rw [wrap64_succ (by omega)]
        refine go1 _ _ ⟨rfl, by omega, ?_⟩
        have e2 : Tb.set kk xx ((G at_).take i) = (G at_).take (i + 1) := by
          rw [set_snoc (take_below (C.up at_) hx), List.take_add_one, hx]
          rfl
        rw [e2] at H12
        exact H12.ordT 5 [0, 2, 3, 4]
      · rintro s h7 again1 ⟨rfl, _, H7⟩
        rw [decide_eq_false (by omega), cond_false]
        rw [List.take_length] at H7
        exact loadT_spec I W L Hs C hd n0 n1 hv2 hall (H7.ordT 4 [0, 2, 3]) (Q := LoadPost b fsb S A G k F) fun t' h' H' => Or.inl ⟨by rw [hat_]; exact hall, t', rfl, H'⟩
theorem er_id {A : AF.FS} (h : A.fuse = none) : AF.er A = A := by
  unfold AF.er
  cases A
  simp only at h
  rw [h]
theorem F8_spec {v : Int} (I : SF S T c) (L : Live A) (Hs : Has A S.dir T) (C : CntOk S c G) (hd : S.dir.size < 4611686018427387904) (hv : 0 ≤ v) (hv2 : v ≤ 1099511627776) (H : sat (stoM b fsb S :: fsP fsb A :: F) h) :
    CallsH Tryz.prog 8 [ptrV b, .int .i64 v] h (LoadPost b fsb S A G v F) :=
  F8_fz I L.wf (by rw [er_id L.fuse]; exact L) (by rw [er_id L.fuse]; exact Hs) C hd hv hv2 H
end
end Go.Proofs.YtibdiikcigokjaaGreat
