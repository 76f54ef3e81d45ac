/- A table's pairs; Snap (seat S). -/
import Derived.Test.YtibdiikcigokjaaGreatSkSt9
import Derived.Test.YtibdiikcigokjaaGreatSkTb7
namespace Go.Proofs.YtibdiikcigokjaaGreat
open Go Go.RowKit Go.MapKept
set_option linter.unusedVariables false
set_option linter.unusedSimpArgs false
open AF (nmI IdOk Live Has Upd Dirc ltB)
open TS (Ch chC Diffs appL VT tabZ tabP seqP seqV)

section
variable {F : List HProp} {h : Heap} {b fsb : Nat} {S : Sto} {A : AF.FS} {T : Dirc} {c : Cnt} {G : Int → Tb.T VT}
/-- A cell that has a slice of pairs. -/
def prsS (b : Nat) (ps : Prs) : HProp := exi fun q : Option Addr × Nat => Many [pt b (.cells #[.slice q.1 ps.length q.2] 41 (0, 0)), ownS 50 2 q.1 ps.length q.2 (ps.flatMap pairC)]
theorem prsS_open {b : Nat} {ps : Prs} (H : sat (prsS b ps :: F) h) : ∃ a c, sat (pt b (.cells #[.slice a ps.length c] 41 (0, 0)) :: ownS 50 2 a ps.length c (ps.flatMap pairC) :: F) h := by
  obtain ⟨⟨a, c⟩, H2⟩ := sat_exi.1 H
  exact ⟨a, c, H2.open⟩
theorem prsS_shut {b : Nat} {a : Option Addr} {c : Nat} {ps : Prs} (H : sat (pt b (.cells #[.slice a ps.length c] 41 (0, 0)) :: ownS 50 2 a ps.length c (ps.flatMap pairC) :: F) h) : sat (prsS b ps :: F) h :=
  sat_exi.2 ⟨(a, c), sat.shut (m := [_, _]) H⟩
/-- One pair more, as a range over a table's pairs adds it. -/
theorem prs_push {b : Nat} {ps : Prs} {x y : ByteArray} {K : Heap → Prop} (hl : ps.length < 1000000) (H : sat (prsS b ps :: F) h) (hK : ∀ h', sat (prsS b (ps ++ [(x, y)]) :: F) h' → K h') :
    Ld h (Addr.mk b 0 none) fun v => DSl v fun xa xl xc => Al h (.cells #[.string x, .string y] 50) fun b2 h2 => RunH Tryz.prog (Builtin.append_ #[41, 41] 41 #[.slice xa xl xc, .slice (some (Addr.mk b2 0 none)) 1 1]) h2 fun r h3 =>
      DSl r fun ya yl yc => StC h3 ((Addr.mk b 0 none).add 0) (.slice ya yl yc) K := by
  obtain ⟨a, c, H1⟩ := prsS_open H
  refine VSl H1.get ?_
  refine Al_sat H1 fun b2 h2 H2 => ?_
  refine appendN u144 src144 inf146 (H2.mv 2) (n := 1) (ys := pairC (x, y)) (srcOf_slice (RdCf H2 rfl) rfl) (by intro u hu; simp [pairC] at hu; rcases hu with rfl | rfl <;> rfl) (by omega) fun a' c' h3 _ H3 => ?_
  rw [DSl_slice]
  -- own, b2, b, F
  refine StCC (H3.mv 2) (by exact Nat.zero_lt_one) rfl fun h4 H4 => hK h4 ?_
  refine prsS_shut (a := a') (c := c') ?_
  rw [List.flatMap_append, List.length_append]
  have e : ([(x, y)] : Prs).flatMap pairC = pairC (x, y) := by simp
  rw [e]
  exact H4.ordT 3 [0, 1]
set_option maxHeartbeats 1000000 in
theorem F22_spec {t : Nat} {l : Tb.T VT} (hl : l.length < 1000000) (H : sat (tabP t l :: F) h) : CallsH Tryz.prog 22 [ptrV t] h fun v h' => ∃ a c, v = .slice a l.length c ∧ sat (ownS 50 2 a l.length c (l.flatMap pairC) :: tabP t l :: F) h' := by
  apply F22_ok
  unfold F22
  refine Al_sat H fun b0 h1 H1 => ?_
  have H1' : sat (prsS b0 [] :: tabP t l :: F) h1 := prsS_shut (a := none) (c := 0) ((ownS_nil 50 2 H1).ordT 2 [1, 0])
  refine (TS.F46_spec (by omega) (H1'.mv 1)).mono ?_
  rintro v h2 ⟨q, c0, c1, rfl, H2⟩
  refine ⟨_, rfl, ?_⟩
  -- seq, tab, prs, F
  refine TS.range_tab (fun i => prsS b0 (l.take i) :: tabP t l :: F) (fun _ => [pur False]) (H2.ordT 3 [0, 2, 1]) ?_ ?_ (fun j h3 H3 => (sat_pur.1 (H3.mv 1)).1.elim)
  · intro i p L rec h3 Q hp HR go _
    refine ⟨p.1, p.2, rfl, HR.get, ?_⟩
    have HB := HR.set (rec .busy none)
    -- L, mark, seq, prs, tab, F
    have hil := (List.getElem?_eq_some_iff.1 hp).1
    refine prs_push (by rw [List.length_take]; omega) (HB.mv 3) fun h4 H4 => go h4 ?_
    have e : l.take (i + 1) = l.take i ++ [(p.1, p.2)] := by rw [List.take_add_one, hp]; rfl
    rw [e]
    exact H4.ordT 4 [1, 2, 3, 0]
  · intro h3 H3
    refine ⟨rfl, ?_⟩
    rw [List.take_length] at H3
    obtain ⟨a, c, H4⟩ := prsS_open (H3.mv 2)
    -- b0, own, mark, seq, tab, F
    refine VSl H4.get ⟨(H4.mv 2).get, ?_⟩
    have H5 := (H4.mv 2).set (.deferred none)
    exact ⟨a, c, rfl, H5.ordT 5 [2, 4]⟩
set_option maxHeartbeats 1000000 in
/-- Snap: there already, done, or a version that isn't there. -/
theorem F11_fz {v : Int} (I : SF S T c) (W : A.WF) (L : Live (AF.er A)) (Hs : Has (AF.er A) S.dir T) (C : CntOk S c G) (hs : A.steps + 10 < 1099511627776) (hd : S.dir.size < 4611686018427387904) (hv : VOk v) (hf : Fit (G v)) (H : sat (stoM b fsb S :: fsP fsb A :: F) h) :
    CallsH Tryz.prog 11 [ptrV b, .int .i64 v] h fun r h' =>
      ((v, ()) ∈ S.N ∧ r = .int .i64 0 ∧ sat (stoM b fsb S :: fsP fsb A :: F) h') ∨
      ((v, ()) ∉ S.N ∧ (∀ k, nearL (S.N.map (·.1)) v < k → k ≤ v → (k, ()) ∈ S.D) ∧ r = .int .i64 (((S.lay A 110 v (G v)).2.2 : Nat) : Int) ∧ (S.lay A 110 v (G v)).1.WF ∧ (S.lay A 110 v (G v)).1.steps ≤ A.steps + 6 ∧ sat (stoM b fsb (S.lay A 110 v (G v)).2.1 :: fsP fsb (S.lay A 110 v (G v)).1 :: F) h') ∨
      ((v, ()) ∉ S.N ∧ ¬ (∀ k, nearL (S.N.map (·.1)) v < k → k ≤ v → (k, ()) ∈ S.D) ∧ r = .int .i64 180 ∧ sat (stoM b fsb S :: fsP fsb A :: F) h') := by
  have hv1 := hv.1
  have hv2 := hv.2
  apply F11_ok
  unfold F11
  refine (F44_spec (v := v)).mono ?_
  rintro r h0 ⟨rfl, rfl⟩
  rw [if_neg (by omega), DI_int, show ((0 : Int) != 0) = false from rfl, cond_false, NN'_some]
  obtain ⟨dm, nm, H1⟩ := stoM_open H
  refine LdMp (x := nm) H1 rfl ?_
  obtain ⟨es, f, h3, h4, h5, h6⟩ := tab_look (H1.mv 2) v
  refine ⟨es, h3, f, h5, ?_⟩
  rcases h6 with ⟨rfl, hg⟩ | ⟨j, x, y, rfl, hg, hB⟩
  rotate_left
  · have hx : x = .agg #[] := hB
    subst hx
    refine ⟨rfl, ?_⟩
    refine Al_sat H fun b0 h7 H7 => ?_
    rw [show (Option.isSome (some (j, Value.agg #[]))) = true from rfl, cond_true]
    exact .inl ⟨getT_mem hg, rfl, H7.drop⟩
  · have hnot : (v, ()) ∉ S.N := fun hm => by
      rw [mem_getT I.upN hm] at hg
      cases hg
    refine ⟨rfl, ?_⟩
    refine Al_sat H fun b0 h7 H7 => ?_
    rw [show (Option.isSome (none : Option (Nat × Value))) = false from rfl, cond_false]
    refine (F8_fz (v := v) I W L Hs C hd (by omega) hv2 H7.drop).mono ?_
    rintro r h8 (⟨hall, t, rfl, H8⟩ | ⟨hno, rfl, H8⟩)
    rotate_left
    · refine ⟨none, 180, rfl, ?_⟩
      rw [show ((180 : Int) != 0) = true from rfl, cond_true]
      exact .inr (.inr ⟨hnot, hno, rfl, H8⟩)
    · refine ⟨some ⟨t, 0, none⟩, 0, rfl, ?_⟩
      rw [show ((0 : Int) != 0) = false from rfl, cond_false]
      refine Al_sat H8 fun b1 h9 H9 => ?_
      have H9' : sat (prsS b1 [] :: tabP t (G v) :: stoM b fsb S :: fsP fsb A :: F) h9 := prsS_shut (a := none) (c := 0) ((ownS_nil 50 2 H9).ordT 2 [1, 0])
      have hgl := C.small v
      refine (TS.F46_spec (by omega) (H9'.mv 1)).mono ?_
      rintro r h10 ⟨q, c0, c1, rfl, H10⟩
      refine ⟨_, rfl, ?_⟩
      -- seq, tab, prs, sto, fs, F
      refine TS.range_tab (fun i => prsS b1 ((G v).take i) :: tabP t (G v) :: stoM b fsb S :: fsP fsb A :: F) (fun _ => [pur False]) (H10.ordT 3 [0, 2, 1]) ?_ ?_ (fun j h3 H3 => (sat_pur.1 (H3.mv 1)).1.elim)
      · intro i p L rec h11 Q hp HR go _
        refine ⟨p.1, p.2, rfl, HR.get, ?_⟩
        have HB := HR.set (rec .busy none)
        have hil := (List.getElem?_eq_some_iff.1 hp).1
        refine prs_push (by rw [List.length_take]; omega) (HB.mv 3) fun h12 H12 => go h12 ?_
        have e : (G v).take (i + 1) = (G v).take i ++ [(p.1, p.2)] := by rw [List.take_add_one, hp]; rfl
        rw [e]
        exact H12.ordT 4 [1, 2, 3, 0]
      · intro h11 H11
        refine ⟨rfl, ?_⟩
        rw [List.take_length] at H11
        -- mark, seq, prs, tab, sto, fs, F
        obtain ⟨dm, nm, H12⟩ := stoM_open (H11.mv 4)
        -- b, D, N, mark, seq, prs, tab, fs, F
        rw [NN'_some]
        refine LdMp (x := nm) H12 rfl ?_
        obtain ⟨a, cc, H13⟩ := prsS_open (H12.mv 5)
        -- b1, own, b, D, N, mark, seq, tab, fs, F
        refine VSl H13.get ?_
        refine (F45_spec (F := pt b1 (.cells #[.slice a (G v).length cc] 41 (0, 0)) :: ownS 50 2 a (G v).length cc ((G v).flatMap pairC) :: markD h10.size :: seqP q c0 c1 (G v) :: tabP t (G v) :: F) (c := 110) (v := v) (ps := G v) (.inr ⟨rfl, rfl⟩) sgN rfl W hs hd hf (fun h' hh => ownS_read (hh.mv 1)) rfl (H13.ordT 9 [2, 3, 4, 8, 0, 1, 5, 6, 7])).mono ?_
        rintro r h12 ⟨rfl, W3, hs3, H14⟩
        rw [DI_int]
        -- sto, fs, b1, own, mark, ...
        refine ⟨(H14.mv 4).get, ?_⟩
        have H15 := (H14.mv 4).set (.deferred none)
        exact .inr (.inl ⟨hnot, hall, rfl, W3, hs3, H15.ordT 7 [1, 2]⟩)
theorem F11_spec {v : Int} (I : SF S T c) (L : Live A) (Hs : Has A S.dir T) (C : CntOk S c G) (hs : A.steps + 10 < 1099511627776) (hd : S.dir.size < 4611686018427387904) (hv : VOk v) (hf : Fit (G v)) (H : sat (stoM b fsb S :: fsP fsb A :: F) h) :
    CallsH Tryz.prog 11 [ptrV b, .int .i64 v] h fun r h' =>
      ((v, ()) ∈ S.N ∧ r = .int .i64 0 ∧ sat (stoM b fsb S :: fsP fsb A :: F) h') ∨
      ((v, ()) ∉ S.N ∧ (∀ k, nearL (S.N.map (·.1)) v < k → k ≤ v → (k, ()) ∈ S.D) ∧ r = .int .i64 (((S.lay A 110 v (G v)).2.2 : Nat) : Int) ∧ (S.lay A 110 v (G v)).1.WF ∧ (S.lay A 110 v (G v)).1.steps ≤ A.steps + 6 ∧ sat (stoM b fsb (S.lay A 110 v (G v)).2.1 :: fsP fsb (S.lay A 110 v (G v)).1 :: F) h') ∨
      ((v, ()) ∉ S.N ∧ ¬ (∀ k, nearL (S.N.map (·.1)) v < k → k ≤ v → (k, ()) ∈ S.D) ∧ r = .int .i64 180 ∧ sat (stoM b fsb S :: fsP fsb A :: F) h') :=
  F11_fz I L.wf (by rw [er_id L.fuse]; exact L) (by rw [er_id L.fuse]; exact Hs) C hs hd hv hf H
end
end Go.Proofs.YtibdiikcigokjaaGreat

/- The law's own helpers: Of, Same, rising, big (seat S). -/
namespace Go.Proofs.YtibdiikcigokjaaGreat
open Go Go.RowKit Go.MapKept
set_option linter.unusedVariables false
set_option linter.unusedSimpArgs false
open AF (nmI IdOk Live Has Upd Dirc ltB)
open TS (Ch chC Diffs appL VT tabZ tabP seqP seqV)

/-- Pairs in a table's order. -/
def riseL (ps : Prs) : Tb.T VT := TS.ofL ps
theorem riseL_up (ps : Prs) : Tb.Up (riseL ps) := by
  unfold riseL TS.ofL
  have : ∀ (ps : Prs) (l : Tb.T VT), Tb.Up l → Tb.Up (ps.foldl (fun l p => Tb.set p.1 p.2 l) l) := by
    intro ps
    induction ps with
    | nil => intro l h; exact h
    | cons p ps ih => intro l h; exact ih _ (h.set _ _)
  exact this ps [] Tb.Up.nil
theorem riseL_mem (ps : Prs) : ∀ p ∈ riseL ps, p ∈ ps := by
  unfold riseL TS.ofL
  have : ∀ (ps : Prs) (l : Tb.T VT), ∀ p ∈ ps.foldl (fun l p => Tb.set p.1 p.2 l) l, p ∈ ps ∨ p ∈ l := by
    intro ps
    induction ps with
    | nil => intro l p h; exact .inr h
    | cons q ps ih =>
      intro l p h
      rcases ih _ p h with h | h
      · exact .inl (List.mem_cons_of_mem _ h)
      · rcases Tb.mem_set h with h | h
        · exact .inl (by rw [h]; exact List.mem_cons_self ..)
        · exact .inr h
  intro p hp
  rcases this ps [] p hp with h | h
  · exact h
  · cases h
theorem riseL_len (ps : Prs) : (riseL ps).length ≤ ps.length := by
  unfold riseL TS.ofL
  have : ∀ (ps : Prs) (l : Tb.T VT), (ps.foldl (fun l p => Tb.set p.1 p.2 l) l).length ≤ ps.length + l.length := by
    intro ps
    induction ps with
    | nil => intro l; simp
    | cons q ps ih =>
      intro l
      have h1 := ih (Tb.set q.1 q.2 l)
      have h2 := Tb.set_length q.1 q.2 l
      rw [List.foldl_cons, List.length_cons]
      omega
  simpa using this ps []
theorem ofL_up {l : Tb.T VT} (U : Tb.Up l) : TS.ofL l = l := by
  have : ∀ (i : Nat), i ≤ l.length → (l.take i).foldl (fun l p => Tb.set p.1 p.2 l) [] = l.take i := by
    intro i
    induction i with
    | zero => intro _; rfl
    | succ i ih =>
      intro hi
      obtain ⟨p, hp⟩ : ∃ p, l[i]? = some p := ⟨_, List.getElem?_eq_getElem (by omega)⟩
      rw [List.take_add_one, hp, List.foldl_append, ih (by omega)]
      exact set_snoc (take_below U hp)
  have h := this l.length (Nat.le_refl _)
  rw [List.take_length] at h
  exact h
section
variable {F : List HProp} {h : Heap} {a : Option Addr} {l c : Nat}
theorem F15_spec {ps : Prs} (hr : ∀ h', sat F h' → RdC h' a (ps.flatMap pairC)) (hl : ps.length = l) (hll : l < 1000000) (H : sat F h) :
    CallsH Tryz.prog 15 [.slice a l c] h fun v h' => ∃ t, v = ptrV t ∧ sat (tabP t (TS.ofL ps) :: F) h' := by
  apply F15_ok
  unfold F15
  refine (TS.F34_none H).mono ?_
  rintro v h1 ⟨t, rfl, H1⟩
  refine ⟨some ⟨t, 0, none⟩, rfl, ?_⟩
  refine LoopH.upto l (fun i (s : Int) h' => s = (i : Int) ∧ i ≤ l ∧ sat (tabP t (TS.ofL (ps.take i)) :: F) h') (fun s => l - s.toNat) (fun i s h' hh => ⟨hh.2.1, by rw [hh.1]; omega⟩) ⟨rfl, Nat.zero_le _, H1⟩ ?_ ?_
  · rintro i s h2 again hi ⟨rfl, _, H2⟩ go
    rw [decide_eq_true (show ((i : Int) < (l : Int)) by omega), cond_true]
    obtain ⟨⟨k, x⟩, hx⟩ : ∃ x, ps[i]? = some x := ⟨_, List.getElem?_eq_getElem (by omega)⟩
    refine IdxC (f := pairC) (sz := 2) pairC_len (by decide) (hr _ H2.drop) hl hx fun b1 hb1 hc1 => ?_
    refine ⟨.string k, hc1 0 _ rfl, k, rfl, ?_⟩
    refine IdxC (f := pairC) (sz := 2) pairC_len (by decide) (hr _ H2.drop) hl hx fun b2 hb2 hc2 => ?_
    refine ⟨.string x, hc2 1 _ rfl, x, rfl, ?_⟩
    refine (TS.F39_spec (key := k) (x := x) H2).mono ?_
    rintro r h3 ⟨rfl, H3⟩
    refine ⟨rfl, ?_⟩
    rw [wrap64_succ (by omega)]
    refine go _ _ ⟨rfl, by omega, ?_⟩
    have e : TS.ofL (ps.take (i + 1)) = Tb.set k x (TS.ofL (ps.take i)) := by
      unfold TS.ofL
      rw [List.take_add_one, hx, List.foldl_append]
      rfl
    rw [e]
    exact H3
  · rintro s h2 again ⟨rfl, _, H2⟩
    rw [decide_eq_false (by omega), cond_false]
    rw [List.take_of_length_le (by omega)] at H2
    exact ⟨t, rfl, H2⟩
theorem F15_nil (H : sat F h) : CallsH Tryz.prog 15 [.slice none 0 0] h fun v h' => ∃ t, v = ptrV t ∧ sat (tabP t [] :: F) h' := by
  refine (F15_spec (F := F) (ps := []) (fun h' hh => ?_) rfl (by decide) H).mono ?_
  · rfl
  · rintro v h' ⟨t, rfl, H'⟩
    exact ⟨t, rfl, H'⟩
theorem F17_spec {ps : Prs} (hr : ∀ h', sat F h' → RdC h' a (ps.flatMap pairC)) (hl : ps.length = l) (hll : l < 1000000) (H : sat F h) :
    CallsH Tryz.prog 17 [.slice a l c] h fun v h' => ∃ a' c', v = .slice a' (riseL ps).length c' ∧ sat (ownS 50 2 a' (riseL ps).length c' ((riseL ps).flatMap pairC) :: F) h' := by
  apply F17_ok
  unfold F17
  refine LoopH.upto l (fun i (s : Sl × Int) h' => s.2 = (i : Int) ∧ i ≤ l ∧ s.1.l = (riseL (ps.take i)).length ∧ sat (ownS 50 2 s.1.a s.1.l s.1.c ((riseL (ps.take i)).flatMap pairC) :: F) h') (fun s => l - s.2.toNat) (fun i s h' hh => ⟨hh.2.1, by rw [hh.1]; omega⟩) ⟨rfl, Nat.zero_le _, rfl, ownS_nil 50 2 H⟩ ?_ ?_
  · rintro i ⟨⟨sa, sl, sc⟩, s2⟩ h2 again hi ⟨rfl, _, hsl, H2⟩ go
    dsimp only at hsl H2 ⊢
    rw [decide_eq_true (show ((i : Int) < (l : Int)) by omega), cond_true]
    obtain ⟨⟨k, x⟩, hx⟩ : ∃ x, ps[i]? = some x := ⟨_, List.getElem?_eq_getElem (by omega)⟩
    refine IdxC (f := pairC) (sz := 2) pairC_len (by decide) (hr _ H2.drop) hl hx fun b1 hb1 hc1 => ?_
    refine ⟨.string k, hc1 0 _ rfl, k, rfl, ?_⟩
    refine IdxC (f := pairC) (sz := 2) pairC_len (by decide) (hr _ H2.drop) hl hx fun b2 hb2 hc2 => ?_
    refine ⟨.string x, hc2 1 _ rfl, x, rfl, ?_⟩
    have hrl := riseL_len (ps.take i)
    rw [List.length_take] at hrl
    refine (TS.F54_spec (F := ownS 50 2 sa sl sc ((riseL (ps.take i)).flatMap pairC) :: F) (l := riseL (ps.take i)) (key := k) (val := x) (fun h' hh => ownS_read hh) hsl.symm (by omega) (riseL_up _) H2).mono ?_
    rintro r h3 ⟨a', n', c', rfl, hn', H3⟩
    rw [DSl_slice, wrap64_succ (by omega)]
    have e : riseL (ps.take (i + 1)) = Tb.set k x (riseL (ps.take i)) := by
      unfold riseL TS.ofL
      rw [List.take_add_one, hx, List.foldl_append]
      rfl
    refine go _ _ ⟨rfl, by omega, ?_, ?_⟩
    · dsimp only; rw [e]; exact hn'.symm
    · dsimp only
      rw [e]
      exact (H3.mv 1).drop
  · rintro ⟨⟨sa, sl, sc⟩, s2⟩ h2 again ⟨rfl, _, hsl, H2⟩
    dsimp only at hsl H2 ⊢
    rw [decide_eq_false (by omega), cond_false]
    rw [List.take_of_length_le (by omega)] at H2 hsl
    subst hsl
    exact ⟨sa, sc, rfl, H2⟩
/-- What is small enough to be looked at. -/
def bigL (ps : Prs) : Bool := decide (60 < ps.length) || ps.any fun p => decide (300 < p.1.size + p.2.size)
theorem F16_spec {ps : Prs} (hr : RdC h a (ps.flatMap pairC)) (hl : ps.length = l) (hz : ∀ p ∈ ps, p.1.size ≤ 140737488355328 ∧ p.2.size ≤ 140737488355328) :
    CallsH Tryz.prog 16 [.slice a l c] h fun v h' => v = .bool (bigL ps) ∧ h' = h := by
  apply F16_ok
  unfold F16
  unfold bigL
  by_cases hb : 60 < l
  · rw [decide_eq_true (show ((l : Int) > 60) by omega), cond_true, hl, decide_eq_true hb]
    exact ⟨rfl, by trivial⟩
  rw [decide_eq_false (show ¬ ((l : Int) > 60) by omega), cond_false, hl, decide_eq_false hb, Bool.false_or]
  refine LoopH.upto l (fun i (s : Int) h' => s = (i : Int) ∧ i ≤ l ∧ h' = h ∧ ((ps.take i).any fun p => decide (300 < p.1.size + p.2.size)) = false) (fun s => l - s.toNat) (fun i s h' hh => ⟨hh.2.1, by rw [hh.1]; omega⟩) ⟨rfl, Nat.zero_le _, rfl, rfl⟩ ?_ ?_
  · rintro i s h2 again hi ⟨rfl, _, rfl, hno⟩ go
    rw [decide_eq_true (show ((i : Int) < (l : Int)) by omega), cond_true]
    obtain ⟨⟨k, x⟩, hx⟩ : ∃ x, ps[i]? = some x := ⟨_, List.getElem?_eq_getElem (by omega)⟩
    have hxm := List.mem_of_getElem? hx
    obtain ⟨z1, z2⟩ := hz _ hxm
    simp only at z1 z2
    refine IdxC (f := pairC) (sz := 2) pairC_len (by decide) hr hl hx fun b1 hb1 hc1 => ?_
    refine ⟨.string k, hc1 0 _ rfl, k, rfl, ?_⟩
    refine IdxC (f := pairC) (sz := 2) pairC_len (by decide) hr hl hx fun b2 hb2 hc2 => ?_
    refine ⟨.string x, hc2 1 _ rfl, x, rfl, ?_⟩
    dsimp only
    rw [← Int.natCast_add, wrap64_nat (by omega)]
    by_cases hbig : 300 < k.size + x.size
    · rw [decide_eq_true (show (((k.size + x.size : Nat) : Int) > 300) by omega), cond_true]
      have : (ps.any fun p => decide (300 < p.1.size + p.2.size)) = true := List.any_eq_true.2 ⟨_, hxm, decide_eq_true hbig⟩
      rw [this]
      exact ⟨rfl, by trivial⟩
    · rw [decide_eq_false (show ¬ (((k.size + x.size : Nat) : Int) > 300) by omega), cond_false, wrap64_succ (by omega)]
      refine go _ _ ⟨rfl, by omega, by trivial, ?_⟩
      rw [List.take_add_one, hx, List.any_append, hno]
      simp only [Option.toList_some, List.any_cons, List.any_nil, Bool.or_false, Bool.false_or]
      exact decide_eq_false hbig
  · rintro s h2 again ⟨rfl, _, rfl, hno⟩
    rw [decide_eq_false (by omega), cond_false]
    rw [List.take_of_length_le (by omega)] at hno
    rw [hno]
    exact ⟨rfl, by trivial⟩
end
end Go.Proofs.YtibdiikcigokjaaGreat

/- Calls of a store in a file system that is on (seat S). -/
namespace Go.Proofs.YtibdiikcigokjaaGreat
open Go Go.RowKit Go.MapKept
set_option linter.unusedVariables false
set_option linter.unusedSimpArgs false
open AF (nmI IdOk Live Has Upd Dirc ltB goG)
open Frame (packN)
open TS (Ch chC Diffs appL VT tabZ tabP)

section
variable {F : List HProp} {h : Heap} {b fsb : Nat} {S : Sto} {A : AF.FS} {T : Dirc} {c : Cnt} {G : Int → Tb.T VT}
theorem put_room {v : Int} {k : Nat} {ps : Prs} (I : SF S T c) (L : Live A) (Hs : Has A S.dir T) (hk : k = 100 ∨ k = 110) (hv : VOk v) (hf : Fit ps) (hfew : S.D.length + S.N.length < 4000) {w : Nat} (hw : (pairsN ps).length ≤ w) (hu : A.used + (8 + w) ≤ A.room) :
    (A.put S.dir (nmI k v) (pairsN ps)).2 = 0 ∧ Upd 0 (8 + w) 5 A (A.put S.dir (nmI k v) (pairsN ps)).1 S.dir (AF.setN (nmI k v) (packN (pairsN ps)) T) ∧ SF (laidS S k v) (AF.setN (nmI k v) (packN (pairsN ps)) T) (updC c k v ps) := by
  have hr : AF.right (nmI k v) = true := AF.Fnm.nm_right (by omega) (by omega) _
  have hz : (nmI k v).size ≤ 28 := by rw [size_nmI]; decide
  have ht : AF.getN T (AF.tmpN ++ nmI k v) = none := AF.getN_T I.noTmp (AF.isTmp_tmp _)
  have hl : T.length < 4096 := by have := I.few L Hs; omega
  obtain ⟨e, u⟩ := AF.put_ok (name := nmI k v) (x := pairsN ps) L Hs hr hz ht hl (pairsN_B8 ps) (by have := hf.1; omega) (by omega)
  exact ⟨e, u.weak (Nat.le_refl _) (by omega) (Nat.le_refl _), I.laid L Hs hk hv hf (AF.has_up u.live u.here)⟩
theorem commit_live {v : Int} {pa pb : Option Addr} {w : Nat} (I : SF S T c) (L : Live A) (Hs : Has A S.dir T) (C : CntOk S c G) (hs : A.steps + 10 < 1099511627776) (hd : S.dir.size < 4611686018427387904) (hfew : S.D.length + S.N.length < 4000) (hv : VOk v)
    (hf : ∀ d, Diffs (G (v - 1)) (G v) d → Fit (chPairs d) ∧ (pairsN (chPairs d)).length ≤ w) (hu : A.used + (8 + w) ≤ A.room) (H : sat (stoM b fsb S :: fsP fsb A :: tabZ pa (G (v - 1)) :: tabZ pb (G v) :: F) h) :
    CallsH Tryz.prog 10 [ptrV b, .int .i64 v, .pointer pa, .pointer pb] h fun r h' => ∃ A' T' c', r = .int .i64 0 ∧ SF (laidS S 100 v) T' c' ∧ CntOk (laidS S 100 v) c' G ∧ Upd 0 (8 + w) 5 A A' S.dir T' ∧
      sat (stoM b fsb (laidS S 100 v) :: fsP fsb A' :: tabZ pa (G (v - 1)) :: tabZ pb (G v) :: F) h' := by
  have s1 := C.small (v - 1)
  have s2 := C.small v
  refine (F10_spec (was := G (v - 1)) (now := G v) hv L.wf hs hd (by omega) (by omega) (fun d hD => (hf d hD).1) H).mono ?_
  rintro r h' ⟨d, hD, rfl, _, _, H'⟩
  obtain ⟨f1, f2⟩ := hf d hD
  obtain ⟨e, u, I'⟩ := put_room (k := 100) I L Hs (.inl rfl) hv f1 hfew f2 hu
  have e2 : S.lay A 100 v (chPairs d) = ((A.put S.dir (nmI 100 v) (pairsN (chPairs d))).1, laidS S 100 v, 0) := by unfold Sto.lay; rw [e, if_pos rfl]
  rw [e2] at H' ⊢
  refine ⟨_, _, _, rfl, I', ?_, u, H'⟩
  have eS : laidS S 100 v = { S with D := setT v () S.D } := if_pos rfl
  rw [eS]
  refine ⟨C.zero, C.up, C.small, fun p hp => ?_, fun p hp => ?_⟩
  · rcases (mem_setT I.upD).1 hp with rfl | ⟨hne, hp⟩
    · exact ⟨d, hD, by unfold updC; rw [if_pos ⟨rfl, rfl⟩]⟩
    · obtain ⟨d', h1, h2⟩ := C.delta p hp
      exact ⟨d', h1, by unfold updC; rw [if_neg (fun h => hne h.2)]; exact h2⟩
  · unfold updC
    rw [if_neg (fun h => by cases h.1)]
    exact C.snap p hp
theorem snap_live {v : Int} {w : Nat} (I : SF S T c) (L : Live A) (Hs : Has A S.dir T) (C : CntOk S c G) (hs : A.steps + 10 < 1099511627776) (hd : S.dir.size < 4611686018427387904) (hfew : S.D.length + S.N.length < 4000) (hv : VOk v)
    (hf : Fit (G v) ∧ (pairsN (G v)).length ≤ w) (hu : A.used + (8 + w) ≤ A.room) (H : sat (stoM b fsb S :: fsP fsb A :: F) h) :
    CallsH Tryz.prog 11 [ptrV b, .int .i64 v] h fun r h' => ∃ A' S' T' c' e, r = .int .i64 ((e : Nat) : Int) ∧ (e = 0 ∨ e = 180) ∧ SF S' T' c' ∧ CntOk S' c' G ∧ S'.dir = S.dir ∧ S'.D = S.D ∧ (∀ p ∈ S.N, p ∈ S'.N) ∧ (∀ p ∈ S'.N, p ∈ S.N ∨ (p.1 = v ∧ e = 0)) ∧ (e = 0 → (v, ()) ∈ S'.N) ∧ S'.N.length ≤ S.N.length + 1 ∧
      ((∀ k, nearL (S.N.map (·.1)) v < k → k ≤ v → (k, ()) ∈ S.D) → e = 0) ∧ (e = 0 → (v, ()) ∈ S.N ∨ ∀ k, nearL (S.N.map (·.1)) v < k → k ≤ v → (k, ()) ∈ S.D) ∧ Upd 0 (8 + w) 5 A A' S.dir T' ∧ sat (stoM b fsb S' :: fsP fsb A' :: F) h' := by
  refine (F11_spec (v := v) I L Hs C hs hd hv hf.1 H).mono ?_
  have same : Upd 0 (8 + w) 5 A A S.dir T := (AF.Upd.refl L Hs).weak (Nat.le_refl _) (by omega) (by omega)
  rintro r h' (⟨hm, rfl, H'⟩ | ⟨hno, hall, rfl, _, _, H'⟩ | ⟨hno, hnall, rfl, H'⟩)
  · exact ⟨A, S, T, c, 0, rfl, .inl rfl, I, C, rfl, rfl, fun p h => h, fun p h => .inl h, fun _ => hm, Nat.le_succ _, fun _ => rfl, fun _ => .inl hm, same, H'⟩
  · obtain ⟨e, u, I'⟩ := put_room (k := 110) I L Hs (.inr rfl) hv hf.1 hfew hf.2 hu
    have e2 : S.lay A 110 v (G v) = ((A.put S.dir (nmI 110 v) (pairsN (G v))).1, laidS S 110 v, 0) := by unfold Sto.lay; rw [e, if_pos rfl]
    rw [e2] at H' ⊢
    have eS : laidS S 110 v = { S with N := setT v () S.N } := if_neg (by decide)
    rw [eS] at H' I'
    refine ⟨_, { S with N := setT v () S.N }, _, _, 0, rfl, .inl rfl, I', ?_, rfl, rfl, fun p hp => ?_, fun p hp => ?_, fun _ => (mem_setT I.upN).2 (.inl rfl), (AF.setT_length v () S.N).1, fun _ => rfl, fun _ => .inr hall, u, H'⟩
    · refine ⟨C.zero, C.up, C.small, fun p hp => ?_, fun p hp => ?_⟩
      · obtain ⟨d', h1, h2⟩ := C.delta p hp
        exact ⟨d', h1, by unfold updC; rw [if_neg (fun h => by cases h.1)]; exact h2⟩
      · rcases (mem_setT I.upN).1 hp with rfl | ⟨hne, hp⟩
        · unfold updC; rw [if_pos ⟨rfl, rfl⟩]
        · unfold updC; rw [if_neg (fun h => hne h.2)]; exact C.snap p hp
    · refine (mem_setT I.upN).2 (.inr ⟨fun e => hno ?_, hp⟩)
      obtain ⟨x, ⟨⟩⟩ := p
      simp only at e
      rw [← e]; exact hp
    · rcases (mem_setT I.upN).1 hp with rfl | ⟨_, h⟩
      · exact .inr ⟨rfl, rfl⟩
      · exact .inl h
  · exact ⟨A, S, T, c, 180, rfl, .inr rfl, I, C, rfl, rfl, fun p h => h, fun p h => .inl h, fun e => (by cases e), Nat.le_succ _, fun hh => absurd hh hnall, (fun e => by cases e), same, H'⟩
theorem memSet {D : List (Int × Unit)} {p : Int × Unit} (h : p ∈ D) : p.1 ∈ D.map (·.1) := List.mem_map.2 ⟨p, h, rfl⟩
set_option maxHeartbeats 1000000 in
theorem drop_live {v : Int} (I : SF S T c) (L : Live A) (Hs : Has A S.dir T) (C : CntOk S c G) (hs : A.steps + S.D.length + S.N.length + 20 < 1099511627776) (hd : S.dir.size < 4611686018427387904) (hfew : S.D.length + S.N.length < 4000) (H : sat (stoM b fsb S :: fsP fsb A :: F) h) :
    CallsH Tryz.prog 12 [ptrV b, .int .i64 v] h fun r h' => ∃ A' S' T', r = .int .i64 0 ∧ SF S' T' c ∧ CntOk S' c G ∧ S'.dir = S.dir ∧ (nearL (S.N.map (·.1)) v = 0 → S' = S) ∧
      (nearL (S.N.map (·.1)) v ≠ 0 → S'.D = S.D.filter (fun x => !decide (x.1 ≤ nearL (S.N.map (·.1)) v)) ∧ S'.N = S.N.filter (fun x => !decide (x.1 < nearL (S.N.map (·.1)) v))) ∧
      Upd 0 0 (S.D.length + S.N.length + 1) A A' S.dir T' ∧ sat (stoM b fsb S' :: fsP fsb A' :: F) h' := by
  refine (F12_spec (below := v) L.wf hs hd (by omega) H).mono ?_
  rintro r h' ⟨rfl, _, _, H'⟩
  unfold Sto.drop at H' ⊢
  dsimp only at H' ⊢
  generalize nearL (S.N.map (·.1)) v = at_ at H' ⊢
  by_cases h0 : at_ = 0
  · rw [if_pos h0] at H' ⊢
    exact ⟨A, S, T, rfl, I, C, rfl, fun _ => rfl, fun h => absurd h0 h, (AF.Upd.refl L Hs).weak (Nat.le_refl _) (Nat.le_refl _) (by omega), H'⟩
  rw [if_neg h0] at H' ⊢
  have up0 := AF.has_up L Hs
  obtain ⟨A2, g2, u2⟩ := AF.goG_ok S.dir (c := 100) (by decide) (fun n => decide (n ≤ at_)) (S.D.map (·.1)) A S.D false T L Hs I.upD.nodup (fun n hn => by obtain ⟨p, hp, rfl⟩ := List.mem_map.1 hn; exact (I.okD p hp).id) (fun n hn _ => by
    obtain ⟨p, hp, rfl⟩ := List.mem_map.1 hn
    exact ⟨_, AF.mem_getN up0 ((I.files _ _).2 (.inl ⟨p, hp, rfl, rfl⟩))⟩)
  rw [g2] at H' ⊢
  dsimp only at H' ⊢
  rw [if_neg (by simp)] at H' ⊢
  have up2 := AF.has_up u2.live u2.here
  obtain ⟨A3, g3, u3⟩ := AF.goG_ok S.dir (c := 110) (by decide) (fun n => decide (n < at_)) (S.N.map (·.1)) A2 S.N (false || (S.D.map (·.1)).any fun n => decide (n ≤ at_)) _ u2.live u2.here I.upN.nodup (fun n hn => by obtain ⟨p, hp, rfl⟩ := List.mem_map.1 hn; exact (I.okN p hp).id) (fun n hn _ => by
    obtain ⟨p, hp, rfl⟩ := List.mem_map.1 hn
    refine ⟨packN (pairsN (c 110 p.1)), AF.mem_getN up2 (List.mem_filter.2 ⟨(I.files _ _).2 (.inr ⟨p, hp, rfl, rfl⟩), ?_⟩)⟩
    simp only [Bool.not_eq_true', List.any_eq_false, Bool.and_eq_true, decide_eq_true_eq]
    rintro n hn2 ⟨_, e⟩
    obtain ⟨q, hq, rfl⟩ := List.mem_map.1 hn2
    have := (nm_inj2 110 100 (I.okN p hp) (I.okD q hq) e).1
    omega)
  rw [g3] at H' ⊢
  dsimp only at H' ⊢
  rw [if_neg (by simp)] at H' ⊢
  have eD : S.D.filter (fun q => !(decide (q.1 ∈ S.D.map (·.1)) && decide (q.1 ≤ at_))) = S.D.filter fun x => !decide (x.1 ≤ at_) := List.filter_congr fun q hq => by rw [decide_eq_true (memSet hq), Bool.true_and]
  have eN : S.N.filter (fun q => !(decide (q.1 ∈ S.N.map (·.1)) && decide (q.1 < at_))) = S.N.filter fun x => !decide (x.1 < at_) := List.filter_congr fun q hq => by rw [decide_eq_true (memSet hq), Bool.true_and]
  rw [eD, eN] at H'
  rw [eD, eN]
  rw [List.length_map] at u2 u3
  generalize hT3 : List.filter (fun q : ByteArray × List Nat => !((S.N.map (·.1)).any fun n => decide (n < at_) && decide (q.1 = nmI 110 n))) (List.filter (fun q : ByteArray × List Nat => !((S.D.map (·.1)).any fun n => decide (n ≤ at_) && decide (q.1 = nmI 100 n))) T) = T3 at u3
  have hmem : ∀ k x, (k, x) ∈ T3 ↔ (k, x) ∈ T ∧ (∀ v, (v, ()) ∈ S.D → (decide (v ≤ at_)) = true → k ≠ nmI 100 v) ∧ (∀ v, (v, ()) ∈ S.N → (decide (v < at_)) = true → k ≠ nmI 110 v) := fun k x => by
    rw [← hT3, List.mem_filter, List.mem_filter]
    simp only [Bool.not_eq_true', List.any_eq_false, Bool.and_eq_true, decide_eq_true_eq, not_and]
    constructor
    · rintro ⟨⟨h1, h2⟩, h3⟩
      exact ⟨h1, fun v hv hle => h2 v (memSet hv) hle, fun v hv hle => h3 v (memSet hv) hle⟩
    · rintro ⟨h1, h2, h3⟩
      exact ⟨⟨h1, fun n hn hle => h2 n (memU hn) hle⟩, fun n hn hle => h3 n (memU hn) hle⟩
  have I' := I.less (U := T3) (fun n => decide (n ≤ at_)) (fun n => decide (n < at_)) hmem
  have C' : CntOk { S with D := S.D.filter fun x => !decide (x.1 ≤ at_), N := S.N.filter fun x => !decide (x.1 < at_) } c G := ⟨C.zero, C.up, C.small, fun p hp => C.delta p (List.mem_filter.1 hp).1, fun p hp => C.snap p (List.mem_filter.1 hp).1⟩
  have u := u2.trans u3
  by_cases hfl : ((false || (S.D.map (·.1)).any fun n => decide (n ≤ at_)) || (S.N.map (·.1)).any fun n => decide (n < at_)) = true
  · rw [if_pos hfl] at H' ⊢
    obtain ⟨e5, u5⟩ := AF.syncDir_ok u3.live u3.here
    refine ⟨_, _, T3, by rw [e5]; rfl, I', C', rfl, fun h => absurd h h0, fun _ => ⟨rfl, rfl⟩, (u.trans u5).weak (Nat.le_refl _) (Nat.le_refl _) (by omega), H'⟩
  · rw [if_neg hfl] at H' ⊢
    exact ⟨_, _, T3, rfl, I', C', rfl, fun h => absurd h h0, fun _ => ⟨rfl, rfl⟩, u.weak (Nat.le_refl _) (Nat.le_refl _) (by omega), H'⟩
end
end Go.Proofs.YtibdiikcigokjaaGreat

/- What changed, laid small; pairs alike; the chapter's example; StateNil (seat S). -/
namespace Go.Proofs.YtibdiikcigokjaaGreat
open Go Go.RowKit Go.MapKept
set_option linter.unusedVariables false
set_option linter.unusedSimpArgs false
open AF (nmI IdOk Live Has Upd Dirc ltB goG)
open TS (Ch chC Diffs appL VT tabZ tabP)

theorem pairsN_len {ps : Prs} {n m : Nat} (hn : ps.length ≤ n) (hnn : n ≤ 1000000) (hm : ∀ p ∈ ps, p.1.size + p.2.size ≤ m) (hmm : m ≤ 1000000) : (pairsN ps).length ≤ 5 + n * (20 + m) := by
  unfold pairsN pairsB
  rw [List.length_append, List.length_map]
  have h1 := numB_length 4 ps.length (by omega)
  have h2 : ∀ qs : Prs, (∀ p ∈ qs, p.1.size + p.2.size ≤ m) → ((qs.map fun p => (sb p.1, sb p.2)).flatMap pairB).length ≤ qs.length * (20 + m) := by
    intro qs
    induction qs with
    | nil => intro _; simp
    | cons p qs ih =>
      intro hq
      have h3 := ih fun p hp => hq p (List.mem_cons_of_mem _ hp)
      have h4 := hq p (List.mem_cons_self ..)
      have e1 := numB_length 4 (sb p.1).length (by rw [sb_length]; omega)
      have e2 := numB_length 4 (sb p.2).length (by rw [sb_length]; omega)
      have h6 : (pairB (sb p.1, sb p.2)).length ≤ 20 + m := by
        unfold pairB wordB
        simp only [List.length_append, sb_length] at *
        omega
      rw [List.map_cons, List.flatMap_cons, List.length_append, List.length_cons, Nat.succ_mul]
      omega
  have h3 := h2 ps hm
  have h4 : ps.length * (20 + m) ≤ n * (20 + m) := Nat.mul_le_mul_right _ hn
  omega
theorem fit_of {ps : Prs} {n m : Nat} (hn : ps.length ≤ n) (hnn : n ≤ 1000) (hm : ∀ p ∈ ps, p.1.size + p.2.size ≤ m) (hmm : m ≤ 900) : Fit ps ∧ (pairsN ps).length ≤ 5 + n * (20 + m) := by
  have h := pairsN_len hn (by omega) hm (by omega)
  have h2 : n * (20 + m) ≤ 1000 * 920 := Nat.mul_le_mul (by omega) (by omega)
  refine ⟨⟨by omega, by omega, fun p hp => ?_⟩, h⟩
  have := hm p hp
  omega
theorem diffs_mem {a b : Tb.T VT} {d : List Ch} (D : Diffs a b d) : ∀ x ∈ d, (x.1, x.2.1) ∈ b ∨ (x.2.1 = .empty ∧ ∃ y, (x.1, y) ∈ a) := by
  intro x hx
  have h1 : Tb.get (V := VT × Bool) d x.1 = some x.2 := Tb.get_of D.up.nodup hx
  rw [D.at_] at h1
  unfold TS.dget at h1
  split at h1
  · rename_i y hb
    split at h1
    · cases h1
    · rw [Option.some.injEq] at h1
      rw [← h1]
      exact .inl (Tb.get_mem hb)
  · split at h1
    · rename_i ha
      rw [Option.some.injEq] at h1
      rw [← h1]
      obtain ⟨y, hy⟩ := Option.isSome_iff_exists.1 ha
      exact .inr ⟨rfl, y, Tb.get_mem hy⟩
    · cases h1
/-- What changed between small tables is small. -/
theorem diffs_fit {a b : Tb.T VT} {d : List Ch} {n m : Nat} (D : Diffs a b d) (Ua : Tb.Up a) (Ub : Tb.Up b) (hn : a.length + b.length ≤ n) (hnn : n ≤ 1000) (ha : ∀ p ∈ a, p.1.size + p.2.size ≤ m) (hb : ∀ p ∈ b, p.1.size + p.2.size ≤ m) (hmm : m ≤ 800) :
    Fit (chPairs d) ∧ (pairsN (chPairs d)).length ≤ 5 + n * (21 + m) := by
  have hl := D.of_len Ua Ub
  refine (fit_of (m := m + 1) (n := n) (by unfold chPairs; rw [List.length_map]; omega) hnn (fun p hp => ?_) (by omega)).imp id fun h => by rw [show 21 + m = 20 + (m + 1) by omega]; exact h
  obtain ⟨x, hx, rfl⟩ := List.mem_map.1 hp
  have hs : x.1.size + x.2.1.size ≤ m := by
    rcases diffs_mem D x hx with h | ⟨e, y, h⟩
    · exact hb _ h
    · have h9 := ha _ h
      simp only at h9
      rw [e, show (ByteArray.empty).size = 0 from rfl]
      omega
  have e1 : mi.size = 1 := rfl
  have e2 : pl.size = 1 := rfl
  have e3 : (ByteArray.empty).size = 0 := rfl
  unfold chPair
  split <;> simp only [ByteArray.size_append, e1, e2, e3] <;> omega
section
variable {F : List HProp} {h : Heap} {a b : Option Addr} {l c m e : Nat}
theorem pair_eq (x y : ByteArray × ByteArray) : ((strEq x.1 y.1) && ((strEq x.2 y.2) && true)) = decide (x = y) := by
  rw [strEq_dec, strEq_dec, Bool.and_true]
  obtain ⟨x1, x2⟩ := x
  obtain ⟨y1, y2⟩ := y
  simp only [Prod.mk.injEq]
  by_cases h1 : x1 = y1 <;> by_cases h2 : x2 = y2 <;> simp [h1, h2]
/-- Are pairs alike? -/
theorem F21_spec {xs ys : Prs} (hx : RdC h a (xs.flatMap pairC)) (hl : xs.length = l) (hy : RdC h b (ys.flatMap pairC)) (hm : ys.length = m) (hll : l < 1000000000) (hmm : m < 1000000000) :
    CallsH Tryz.prog 21 [.slice a l c, .slice b m e] h fun v h' => h' = h ∧ v = .bool (decide (xs = ys)) := by
  apply F21_ok
  unfold F21
  by_cases hlm : l = m
  rotate_left
  · rw [show ((l : Int) != (m : Int)) = true from by simp [bne_iff_ne]; omega, cond_true]
    refine ⟨rfl, ?_⟩
    rw [decide_eq_false (fun h => hlm (by rw [← hl, ← hm, h]))]
  subst hlm
  rw [show ((l : Int) != (l : Int)) = false from by simp, cond_false]
  refine LoopH.upto l (fun i (s : Int) h' => s = (i : Int) ∧ i ≤ l ∧ h' = h ∧ xs.take i = ys.take i) (fun s => l - s.toNat) (fun i s h' hh => ⟨hh.2.1, by rw [hh.1]; omega⟩) ⟨rfl, Nat.zero_le _, rfl, rfl⟩ ?_ ?_
  · rintro i s h2 again hi ⟨rfl, _, rfl, he⟩ go
    rw [decide_eq_true (show ((i : Int) < (l : Int)) by omega), cond_true]
    obtain ⟨⟨k1, x1⟩, h1⟩ : ∃ x, xs[i]? = some x := ⟨_, List.getElem?_eq_getElem (by omega)⟩
    obtain ⟨⟨k2, x2⟩, h3⟩ : ∃ x, ys[i]? = some x := ⟨_, List.getElem?_eq_getElem (by omega)⟩
    refine IdxC (f := pairC) (sz := 2) pairC_len (by decide) hx hl h1 fun b1 hb1 hc1 => ?_
    refine ⟨.string k1, hc1 0 _ rfl, .string x1, hc1 1 _ rfl, k1, x1, rfl, ?_⟩
    refine IdxC (f := pairC) (sz := 2) pairC_len (by decide) hy hm h3 fun b2 hb2 hc2 => ?_
    refine ⟨.string k2, hc2 0 _ rfl, .string x2, hc2 1 _ rfl, k2, x2, rfl, ?_⟩
    rw [pair_eq (k1, x1) (k2, x2)]
    by_cases hxy : (k1, x1) = (k2, x2)
    · rw [decide_eq_true hxy, Bool.not_true, cond_false, wrap64_succ (by omega)]
      refine go _ _ ⟨rfl, by omega, by trivial, ?_⟩
      rw [List.take_add_one, List.take_add_one, he, h1, h3, hxy]
    · rw [decide_eq_false hxy, Bool.not_false, cond_true]
      refine ⟨by trivial, ?_⟩
      rw [decide_eq_false (fun hh => hxy ?_)]
      rw [hh, h3] at h1
      exact (Option.some.inj h1).symm
  · rintro s h2 again ⟨rfl, _, rfl, he⟩
    rw [decide_eq_false (by omega), cond_false]
    rw [List.take_of_length_le (by omega), List.take_of_length_le (by omega)] at he
    refine ⟨by trivial, ?_⟩
    rw [decide_eq_true he]
theorem live_F14 {room : Nat} (hr : room ≤ 1073741824) (H : sat F h) : CallsH Tryz.prog 14 [.int .i64 (room : Int)] h fun v h' => ∃ b, v = .tuple #[ptrV b, .int .i64 0] ∧ Live ⟨room, 0, none, false, [], []⟩ ∧ sat (fsP b ⟨room, 0, none, false, [], []⟩ :: F) h' := by
  refine (F14_spec H hr).mono ?_
  rintro v h' ⟨b, rfl, H'⟩
  exact ⟨b, rfl, AF.live_new hr, H'⟩
theorem CntOk.new (dir : ByteArray) (c : Cnt) {G : Int → Tb.T VT} (h0 : G 0 = []) (hu : ∀ k, Tb.Up (G k)) (hs : ∀ k, (G k).length ≤ 100000) : CntOk ⟨dir, [], []⟩ c G := ⟨h0, hu, hs, fun p hp => (by cases hp), fun p hp => (by cases hp)⟩
/-- A table of one pair. -/
theorem F15_one {b0 : Nat} {k x : ByteArray} {t : TypeId} {fr : Nat × Nat} (H : sat (pt b0 (.cells #[.string k, .string x] t fr) :: F) h) : CallsH Tryz.prog 15 [.slice (some (Addr.mk b0 0 none)) 1 1] h fun v h' => ∃ t, v = ptrV t ∧ sat (tabP t [(k, x)] :: F) h' := by
  refine (F15_spec (F := pt b0 (.cells #[.string k, .string x] t fr) :: F) (ps := [(k, x)]) (fun h' hh => RdCf hh rfl) rfl (by show 1 < _; omega) H).mono ?_
  rintro v h' ⟨t, rfl, H'⟩
  exact ⟨t, rfl, (H'.mv 1).drop⟩
end
end Go.Proofs.YtibdiikcigokjaaGreat

/- The chapter's example; StateNil (seat S). -/
namespace Go.Proofs.YtibdiikcigokjaaGreat
open Go Go.RowKit Go.MapKept
set_option linter.unusedVariables false
set_option linter.unusedSimpArgs false
open AF (nmI IdOk Live Has Upd Dirc ltB goG)
open TS (Ch chC Diffs appL VT tabZ tabP)

def kA : ByteArray := ⟨#[97]⟩
def kB : ByteArray := ⟨#[98]⟩
def kX : ByteArray := ⟨#[120]⟩
def kY : ByteArray := ⟨#[121]⟩
def exG (n : Int) : Tb.T VT := if n = 0 then [] else if n = 1 then [(kA, kX)] else [(kB, kY)]
theorem exG_up (n : Int) : Tb.Up (exG n) := by
  unfold exG
  split
  · exact Tb.Up.nil
  · split <;> exact List.pairwise_singleton _ _
theorem exG_len (n : Int) : (exG n).length ≤ 1 := by
  unfold exG
  split
  · simp
  · split <;> simp
theorem exG_small (n : Int) : ∀ p ∈ exG n, p.1.size + p.2.size ≤ 2 := by
  unfold exG
  split
  · simp
  · split <;> · simp only [List.mem_singleton]; rintro p rfl; decide
theorem exG_fit (v : Int) (d : List Ch) (D : Diffs (exG (v - 1)) (exG v) d) : Fit (chPairs d) ∧ (pairsN (chPairs d)).length ≤ 60 := by
  have h1 := exG_len (v - 1)
  have h2 := exG_len v
  refine (diffs_fit (n := 2) (m := 2) D (exG_up _) (exG_up _) (by omega) (by decide) (exG_small _) (exG_small _) (by decide)).imp id fun h => by omega
theorem exG_fitS (v : Int) : Fit (exG v) ∧ (pairsN (exG v)).length ≤ 60 :=
  (fit_of (n := 1) (m := 2) (exG_len v) (by decide) (exG_small v) (by decide)).imp id fun h => by omega
section
variable {F : List HProp} {h : Heap}
set_option maxHeartbeats 2000000 in
theorem F7_spec (H : sat F h) : CallsH Tryz.prog 7 [] h fun v h' => v = .bool true ∧ sat F h' := by
  apply F7_ok
  unfold F7
  refine (live_F14 (room := 10000) (by decide) H).mono ?_
  rintro v h1 ⟨fb, rfl, L0, H1⟩
  refine ⟨some ⟨fb, 0, none⟩, 0, rfl, ?_⟩
  rw [show ((0 : Int) != 0) = false from rfl, cond_false, show (some (⟨fb, 0, none⟩ : Addr)).isNone = false from rfl, cond_false]
  refine (sto_open (dir := ⟨#[115]⟩) L0 (by decide) (by decide) rfl (by decide) H1).mono ?_
  rintro v h2 ⟨b, A1, rfl, u1, H2⟩
  have r1 := u1.room
  have s1 := u1.steps
  have n1 := u1.used
  have z0 : AF.FS.used ⟨10000, 0, none, false, [], []⟩ = 0 := rfl
  simp only [z0] at r1 s1 n1
  refine ⟨some ⟨b, 0, none⟩, 0, rfl, ?_⟩
  refine Al_sat H2 fun b0 h3 H3 => ?_
  refine (F15_one (k := kA) (x := kX) H3).mono ?_
  rintro v h4 ⟨ta, rfl, H4⟩
  refine ⟨some ⟨ta, 0, none⟩, rfl, ?_⟩
  dsimp only
  refine Al_sat H4 fun b1 h5 H5 => ?_
  refine (F15_one (k := kB) (x := kY) H5).mono ?_
  rintro v h6 ⟨tb, rfl, H6⟩
  refine ⟨some ⟨tb, 0, none⟩, rfl, ?_⟩
  dsimp only
  -- tb, ta, sto, fs, F
  rw [show ((0 : Int) != 0) = false from rfl, cond_false, show (some (⟨b, 0, none⟩ : Addr)).isNone = false from rfl, cond_false]
  have I1 := SF.new ⟨#[115]⟩ (fun _ _ => [])
  have C1 : CntOk ⟨⟨#[115]⟩, [], []⟩ (fun _ _ => []) exG := CntOk.new _ _ rfl exG_up (fun k => by have := exG_len k; omega)
  have sz : (⟨#[115]⟩ : ByteArray).size = 1 := rfl
  have hd : (⟨#[115]⟩ : ByteArray).size < 4611686018427387904 := by rw [sz]; omega
  refine (commit_live (v := 1) (pa := none) (pb := some ⟨ta, 0, none⟩) (w := 60) I1 u1.live u1.here C1 (by omega) hd (by decide) ⟨by decide, by decide⟩ (exG_fit 1) (by rw [r1]; omega)
    ((TS.tabZ_none (TS.tabZ_some (H6.ordT 4 [1, 2, 3, 0]))).ordT 5 [2, 3, 0, 1, 4])).mono ?_
  rintro v h7 ⟨A2, T2, c2, rfl, I2, C2, u2, H7⟩
  have r2 := u2.room
  have s2 := u2.steps
  have n2 := u2.used
  rw [DI_int, show ((0 : Int) != 0) = false from rfl, cond_false]
  -- sto, fs, none, ta, tb, F
  refine (commit_live (v := 2) (pa := some ⟨ta, 0, none⟩) (pb := some ⟨tb, 0, none⟩) (w := 60) I2 u2.live u2.here C2 (by omega) hd (by decide) ⟨by decide, by decide⟩ (exG_fit 2) (by rw [r2, r1]; omega)
    ((TS.tabZ_some (H7.ordT 5 [4, 0, 1, 3])).ordT 4 [1, 2, 3, 0])).mono ?_
  rintro v h8 ⟨A3, T3, c3, rfl, I3, C3, u3, H8⟩
  have r3 := u3.room
  have s3 := u3.steps
  have n3 := u3.used
  rw [DI_int, show ((0 : Int) != 0) = false from rfl, cond_false]
  have eS : laidS (laidS ⟨⟨#[115]⟩, [], []⟩ 100 1) 100 2 = ⟨⟨#[115]⟩, [(1, ()), (2, ())], []⟩ := rfl
  rw [eS] at I3 C3 H8
  have nS : nearL ((Sto.N ⟨⟨#[115]⟩, [(1, ()), (2, ())], []⟩).map (·.1)) 2 = 0 := rfl
  refine (snap_live (v := 2) (w := 60) I3 u3.live u3.here C3 (by omega) hd (by decide) ⟨by decide, by decide⟩ (exG_fitS 2) (by rw [r3, r2, r1]; omega) (H8.ordT 4 [0, 1])).mono ?_
  rintro v h9 ⟨A4, S4, T4, c4, e4, rfl, _, I4, C4, d4, D4, _, N4, M4, _, ok4, _, u4, H9⟩
  have r4 := u4.room
  have s4 := u4.steps
  have n4 := u4.used
  have he4 : e4 = 0 := ok4 fun k h1 h2 => by
    rw [nS] at h1
    have hk : k = 1 ∨ k = 2 := by omega
    rcases hk with rfl | rfl
    · exact List.mem_cons_self ..
    · exact List.mem_cons_of_mem _ (List.mem_cons_self ..)
  subst he4
  have N4' : S4.N = [(2, ())] := tab_ext I4.upN (List.pairwise_singleton _ _) fun p => by
    rw [List.mem_singleton]
    constructor
    · intro hp
      rcases N4 p hp with h | ⟨h, _⟩
      · cases h
      · obtain ⟨x, ⟨⟩⟩ := p
        simp only at h
        rw [h]
    · rintro rfl
      exact M4 rfl
  obtain ⟨dir4, DD, NN⟩ := S4
  simp only at d4 D4 N4'
  subst d4 D4 N4'
  rw [DI_int, show (((0 : Nat) : Int) != 0) = false from rfl, cond_false]
  refine (drop_live (v := 2) I4 u4.live u4.here C4 (by show A4.steps + 2 + 1 + 20 < _; omega) hd (by decide) H9).mono ?_
  rintro v h10 ⟨A5, S5, T5, rfl, I5, C5, d5, _, hne, u5, H10⟩
  obtain ⟨D5, N5⟩ := hne (by decide)
  obtain ⟨dir5, DD, NN⟩ := S5
  simp only at d5
  have D5' : DD = [] := D5
  have N5' : NN = [(2, ())] := N5
  subst d5 D5' N5'
  rw [DI_int, show ((0 : Int) != 0) = false from rfl, cond_false]
  refine (F13_spec H10 (by decide)).mono ?_
  rintro v h11 ⟨rfl, H11⟩
  rw [DI_int, show ((((Sto.D ⟨⟨#[115]⟩, [], [(2, ())]⟩).length + (Sto.N ⟨⟨#[115]⟩, [], [(2, ())]⟩).length : Nat) : Int) != 1) = false from rfl, cond_false]
  refine (F8_spec (v := 2) I5 u5.live u5.here C5 hd (by decide) (by decide) H11).mono ?_
  rintro v h12 (⟨_, t, rfl, H12⟩ | ⟨hno, _⟩)
  rotate_left
  · exact (hno fun k h1 h2 => by have e : nearL ((Sto.N ⟨⟨#[115]⟩, [], [(2, ())]⟩).map (·.1)) 2 = 2 := rfl; rw [e] at h1; omega).elim
  refine ⟨some ⟨t, 0, none⟩, 0, rfl, ?_⟩
  refine (F8_spec (v := 1) I5 u5.live u5.here C5 hd (by decide) (by decide) (H12.ordT 3 [1, 2, 0])).mono ?_
  rintro v h13 (⟨hall, _⟩ | ⟨_, rfl, H13⟩)
  · have := hall 1 (by have e : nearL ((Sto.N ⟨⟨#[115]⟩, [], [(2, ())]⟩).map (·.1)) 1 = 0 := rfl; rw [e]; omega) (by omega)
    cases this
  refine ⟨none, 180, rfl, ?_⟩
  rw [show ((0 : Int) == 0) = true from rfl, cond_true, show ((180 : Int) == 180) = true from rfl, cond_true]
  have e2 : exG 2 = [(kB, kY)] := rfl
  rw [e2] at H13
  refine (F22_spec (by decide) (H13.mv 2)).mono ?_
  rintro v h14 ⟨pa, pc, rfl, H14⟩
  rw [DSl_slice]
  refine Al_sat H14 fun b3 h15 H15 => ?_
  refine (F21_spec (xs := [(kB, kY)]) (ys := [(kB, kY)]) (ownS_read (H15.mv 1)) rfl (RdCf H15 rfl) rfl (by decide) (by decide)).mono ?_
  rintro v h16 ⟨rfl, rfl⟩
  rw [DB_bool, decide_eq_true rfl]
  exact ⟨rfl, H15.rest 5⟩
end
end Go.Proofs.YtibdiikcigokjaaGreat
