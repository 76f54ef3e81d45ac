/- A log's block: entries, look-ups, copies. -/
import Derived.Test.YticjjdhaikbdaaaGreatMkMt2b
import Derived.Test.YticjjdhaikbdaaaGreatMkMt4
namespace Go.Proofs.YticjjdhaikbdaaaGreat
open Go Go.RowKit Go.MapKept
set_option linter.unusedVariables false
set_option linter.unusedSimpArgs false
open AF (Meta copyT topT)

def Bb (_ : Unit) (v : Value) (_ : Heap) : Prop := v = .bool true
def logC5 (fb : Nat) (d : ByteArray) (s f m : Nat) : Array Value := #[ptrV fb, .string d, .map (some s), .map (some f), .map (some m)]
def logM (b fsb : Nat) (M : Meta) : HProp := exi fun q : Nat × Nat × Nat => Many [pt b (.cells (logC5 fsb M.dir q.1 q.2.1 q.2.2) 133 (0, 0)), tabM Bs q.1 M.S, tabM Bb q.2.1 M.Fo, tabM Bs q.2.2 M.D]
theorem RdC.push {h : Heap} {a : Option Addr} {xs : List Value} (H : RdC h a xs) (o : Obj) : RdC (h.push o) a xs := by
  cases a with
  | none => exact H
  | some a =>
    intro j v hv
    have h1 := H j v hv
    unfold cellAt at h1 ⊢
    cases hb : h[(a.add j).block]? with
    | none => rw [hb] at h1; cases h1
    | some x =>
      have hlt := (Array.getElem?_eq_some_iff.1 hb).1
      rw [Array.getElem?_push, if_neg (by omega), hb]
      rw [hb] at h1
      exact h1
section
variable {F : List HProp} {h : Heap} {b fsb : Nat} {M : Meta}
theorem logM_open (H : sat (logM b fsb M :: F) h) : ∃ s f m, sat (pt b (.cells (logC5 fsb M.dir s f m) 133 (0, 0)) :: tabM Bs s M.S :: tabM Bb f M.Fo :: tabM Bs m M.D :: F) h := by
  obtain ⟨⟨s, f, m⟩, H2⟩ := sat_exi.1 H
  exact ⟨s, f, m, H2.open⟩
theorem logM_shut {s f m : Nat} (H : sat (pt b (.cells (logC5 fsb M.dir s f m) 133 (0, 0)) :: tabM Bs s M.S :: tabM Bb f M.Fo :: tabM Bs m M.D :: F) h) : sat (logM b fsb M :: F) h :=
  sat_exi.2 ⟨(s, f, m), sat.shut (m := [_, _, _, _]) H⟩
theorem LdMp {i : Nat} {c : Array Value} {e : TypeId} {fr : Nat × Nat} {x : Nat} {K : Option Nat → Prop} (H : sat (pt b (.cells c e fr) :: F) h) (hv : c[i]? = some (.map (some x))) (hK : K (some x)) : Ld h ((Addr.mk b 0 none).add i) fun v => DM v K :=
  LdC H hv (by rw [DM_map]; exact hK)
theorem LdPt {i : Nat} {c : Array Value} {e : TypeId} {fr : Nat × Nat} {x : Nat} {K : Option Addr → Prop} (H : sat (pt b (.cells c e fr) :: F) h) (hv : c[i]? = some (ptrV x)) (hK : K (some ⟨x, 0, none⟩)) : Ld h ((Addr.mk b 0 none).add i) fun v => DP v K :=
  LdC H hv ⟨_, rfl, hK⟩
/-- A look into a table. -/
theorem tab_look {α : Type} {R : α → Value → Heap → Prop} {b : Nat} {T : List (Int × α)} (H : sat (tabM R b T :: F) h) (k : Int) : ∃ es f, mapEs h (some b) es ∧ es.size = T.length ∧ Instr.findNow (.int .i64) (.int .i64 k) es.toList 0 = some f ∧
    ((f = none ∧ getT T k = none) ∨ ∃ j v x, f = some (j, v) ∧ getT T k = some x ∧ R x v h) := by
  obtain ⟨m, H2⟩ := tabM_open H
  obtain ⟨es, clock, hm, hes⟩ := mapEs_ownM H2
  obtain ⟨f, hf, hl, hcase⟩ := hm.find k
  have I := roP_get (H2.mv 1)
  refine ⟨es, f, hes, ?_, hf, ?_⟩
  · rw [hm.size, I.length hm.nodup]
  · rcases I.look k with ⟨h1, h2⟩ | ⟨v, x, h1, h2, h3⟩
    · left
      refine ⟨?_, h2⟩
      rw [h1] at hl
      exact Option.map_eq_none_iff.1 hl
    · right
      rw [h1] at hl
      cases f with
      | none => cases hl
      | some q =>
        obtain ⟨j, u⟩ := q
        simp only [Option.map_some, Option.some.injEq] at hl
        subst hl
        exact ⟨j, u, x, rfl, h2, h3⟩
theorem F92_spec {id : Int} (H : sat (logM b fsb M :: F) h) : CallsH Tryz.prog 92 [ptrV b, .int .i64 id] h fun v h' => h' = h ∧ ((M.get id = none ∧ v = .tuple #[.slice none 0 0, .bool false]) ∨ ∃ x a c, M.get id = some x ∧ v = .tuple #[.slice a x.length c, .bool true] ∧ RdC h a (x.map nv)) := by
  obtain ⟨s, f, m, H2⟩ := logM_open H
  apply F92_ok
  unfold F92
  rw [NN'_some]
  refine LdMp (x := m) H2 rfl ?_
  obtain ⟨es, g, h1, _, h2, h3⟩ := tab_look (H2.mv 3) id
  refine ⟨es, h1, g, h2, ?_⟩
  rcases h3 with ⟨rfl, h3⟩ | ⟨j, v, x, rfl, h3, a, c, rfl, hR⟩
  · simp only [Option.map_none, Option.getD_none, DSl_slice, Option.isSome_none, cond_false]
    rw [NN'_some]
    refine LdMp (x := s) H2 rfl ?_
    obtain ⟨es, g, h1, _, h2, h4⟩ := tab_look (H2.mv 1) id
    refine ⟨es, h1, g, h2, ?_⟩
    have hg : M.get id = getT M.S id := by unfold AF.Meta.get; rw [h3]
    rcases h4 with ⟨rfl, h4⟩ | ⟨j, v, x, rfl, h4, a, c, rfl, hR⟩
    · simp only [Option.map_none, Option.getD_none, DSl_slice, Option.isSome_none]
      exact ⟨by first | rfl | trivial, .inl ⟨by rw [hg, h4], by first | rfl | trivial⟩⟩
    · simp only [Option.map_some, Option.getD_some, DSl_slice, Option.isSome_some]
      exact ⟨by first | rfl | trivial, .inr ⟨x, a, c, by rw [hg, h4], by first | rfl | trivial, hR⟩⟩
  · simp only [Option.map_some, Option.getD_some, DSl_slice, Option.isSome_some, cond_true]
    have hg : M.get id = some x := by unfold AF.Meta.get; rw [h3]
    exact ⟨by first | rfl | trivial, .inr ⟨x, a, c, hg, by first | rfl | trivial, hR⟩⟩
theorem u40 : Tryz.prog.underlying 40 = some (.slice 5) := by kernel_rfl
theorem src40 : srcTy Tryz.prog 40 = true := by kernel_rfl
theorem inf5b : infoOk Tryz.prog 5 1 = true := by kernel_rfl
theorem F94_spec {a : Option Addr} {l c : Nat} {xs : List Nat} (hF : sat F h) (hR : RdC h a (xs.map nv)) (hl : xs.length = l) (hm : l ≤ 140737488355328) :
    CallsH Tryz.prog 94 [.slice a l c] h fun v h' => ∃ a' c', v = .slice a' l c' ∧ sat (ownS 5 1 a' l c' (xs.map nv) :: F) h' := by
  apply F94_ok
  unfold F94
  cases a with
  | none =>
    have h0 : xs = [] := List.map_eq_nil_iff.1 hR
    subst h0
    rw [show (none : Option Addr).isNone = true from rfl, cond_true]
    simp at hl
    subst hl
    exact ⟨none, 0, rfl, ownS_nil 5 1 hF⟩
  | some a =>
    rw [show (some a).isNone = false from rfl, cond_false]
    unfold Al
    dsimp only
    have H1 : sat (ownS 5 1 (some ⟨h.size, 0, none⟩) 0 0 (([] : List Nat).map nv) :: F) (h.push (.cells #[] 5)) := ownS_mk (hF.push _) (nofz_zero _) (Nat.le_refl _) (Nat.zero_le _) rfl rfl
    refine appB (xs := []) u40 src40 inf5b H1 (srcB (hR.push _) hl) (by omega) fun a' c' h2 _ H2 => ?_
    rw [DSl_slice]
    rw [Nat.zero_add, List.nil_append] at H2
    exact ⟨a', c', by rw [Nat.zero_add], H2⟩
theorem F93_spec {a a2 : Option Addr} {c l2 c2 : Nat} {xs ys : List Nat} (h8 : B8 xs) (h82 : B8 ys) (hR : RdC h a (xs.map nv)) (hR2 : RdC h a2 (ys.map nv)) (hl : ys.length = l2) :
    CallsH Tryz.prog 93 [.slice a xs.length c, .slice a2 l2 c2] h fun v h' => h' = h ∧ v = .bool (decide (xs = ys)) := by
  apply F93_ok
  unfold F93
  refine ⟨ofN xs, bytesIn_of hR rfl h8, ofN ys, bytesIn_of hR2 hl h82, rfl, ?_⟩
  rw [strEq_eq, sb_ofN h8, sb_ofN h82]
theorem F147_spec {α : Type} {R : α → Value → Heap → Prop} {T : List (Int × α)} {b : Nat} (H : sat (tabM R b T :: F) h) : CallsH Tryz.prog 147 [.map (some b)] h fun v h' => ∃ b', v = .map (some b') ∧ sat (tabM R b' T :: tabM R b T :: F) h' := by
  obtain ⟨m, H2⟩ := tabM_open H
  obtain ⟨es, clock, hm, H3⟩ := ownM_open H2
  refine ⟨by kernel_rfl, fun w hw => callsIn_wide.2 ?_⟩
  subst hw
  refine (Tryz.maps_Clone147 b es clock w H3.get).mono ?_
  rintro e w' ⟨rfl, rfl⟩
  have H4 := H3.push (.map es clock)
  -- new, b, TabIs, F
  have H5 := roP_dup (H4.mv 2)
  refine ⟨_, rfl, ⟨w.heap.size, rfl, ?_⟩, ⟨rfl, rfl, rfl⟩⟩
  -- TabIs, TabIs, new, b, F
  have H6 := ownM_shut hm (H5.mv 2)
  have H7 : sat (ownM (intKeys .i64) w.heap.size m :: roP (TabIs R m T) :: roP (TabIs R m T) :: pt b (.map es clock) :: F) (w.heap.push (.map es clock)) := H6
  have H8 := ownM_shut hm ((tabM_shut H7).mv 2)
  exact (tabM_shut (H8.ordT 3 [0, 2, 1])).mv 1
theorem foldl_max_perm {l m : List Int} (h : l.Perm m) : l.foldl max (-1) = m.foldl max (-1) := by
  obtain ⟨a1, a2, a3⟩ := AF.foldl_max l (-1)
  obtain ⟨b1, b2, b3⟩ := AF.foldl_max m (-1)
  have e1 : l.foldl max (-1) ≤ m.foldl max (-1) := by
    rcases a3 with e | e
    · rw [e]; exact b1
    · exact b2 _ (h.mem_iff.1 e)
  have e2 : m.foldl max (-1) ≤ l.foldl max (-1) := by
    rcases b3 with e | e
    · rw [e]; exact a1
    · exact a2 _ (h.mem_iff.2 e)
  omega
theorem F148_spec {T S : List (Int × List Nat)} {db sb : Nat} (H : sat (tabM Bs db T :: tabM Bs sb S :: F) h) : CallsH Tryz.prog 148 [.map (some db), .map (some sb)] h fun v h' => v = .tuple #[] ∧ sat (tabM Bs db (copyT T S) :: tabM Bs sb S :: F) h' := by
  have hT := tabM_up H
  obtain ⟨m, H2⟩ := tabM_open (H.mv 1)
  obtain ⟨es, clock, hm, H3⟩ := ownM_open H2
  have I := roP_get (H3.mv 1)
  have hS := I.up
  have hperm := I.perm hm.nodup
  apply F148_ok
  unfold F148
  refine range_sat (k := 2) (e := 40) (by kernel_rfl) H3 H3.get fun r h1 H4 => ?_
  rw [DP_pointer]
  refine mapLoopI (mb := sb) hm (fun _ => ()) (G := fun done => [exi fun T' : List (Int × List Nat) => Many [pur (∀ k, getT T' k = if k ∈ done.map (·.1) then getT S k else getT T k), tabM Bs db T'], roP (TabIs Bs m S)] ++ F) ?_ ?_ ?_
  · -- r, sb, TabIs, db, F
    have H5 := H4.mv 3
    have H6 : sat ((exi fun T' : List (Int × List Nat) => Many [pur (∀ k, getT T' k = if k ∈ ([] : List (Int × Value)).map (·.1) then getT S k else getT T k), tabM Bs db T']) :: pt r (.mapIter (some sb) clock #[] clock) :: pt sb (.map es clock) :: roP (TabIs Bs m S) :: F) h1 :=
      sat_exi.2 ⟨T, sat.shut (m := [_, _]) (sat_pur.2 ⟨fun k => by simp, H5⟩)⟩
    exact H6.bk 2
  · intro done h2 hp H5
    obtain ⟨T', H6⟩ := sat_exi.1 (H5.mv 1)
    obtain ⟨hk, H7⟩ := sat_pur.1 H6.open
    refine ⟨rfl, ?_⟩
    have hT' := tabM_up H7
    have e : T' = copyT T S := by
      refine tab_ext2 hT' (AF.copyT_up hT) fun k => ?_
      rw [hk, AF.getT_copy hS]
      have h1 : k ∈ done.map (·.1) ↔ k ∈ S.map (·.1) := (hp.map (·.1)).mem_iff.trans hperm.mem_iff
      cases hg : getT S k with
      | none =>
        have : k ∉ done.map (·.1) := fun hh => by
          obtain ⟨p, hp2, e2⟩ := List.mem_map.1 (h1.1 hh)
          exact getT_none.1 hg p hp2 e2
        rw [if_neg this]
      | some x =>
        have : k ∈ done.map (·.1) := h1.2 (List.mem_map.2 ⟨_, getT_mem hg, rfl⟩)
        rw [if_pos this]
    subst e
    -- db, sb, TabIs, F
    have H8 : sat (tabM Bs db (copyT T S) :: pt sb (.map es clock) :: roP (TabIs Bs m S) :: F) h2 := H7
    exact (tabM_shut (ownM_shut hm (H8.mv 1)|>.ordT 3 [0, 2, 1])).mv 1
  · rintro o done k v h2 again ⟨rest, hp⟩ H5 hag
    obtain ⟨T', H6⟩ := sat_exi.1 (H5.mv 2)
    obtain ⟨hk, H7⟩ := sat_pur.1 H6.open
    -- db, r, sb, TabIs, F
    have hmem : (k, v) ∈ m := hp.mem_iff.1 (by simp)
    have H8 := roP_dup (H7.mv 3)
    have I2 := roP_get H8
    obtain ⟨x, hx, a, c, rfl, hR⟩ := I2.vals k v hmem
    refine ⟨k, a, x.length, c, rfl, ?_⟩
    have H9 := roP_mono (S := Bs x (.slice a x.length c)) (fun h I => by
      obtain ⟨y, hy, hr⟩ := I.vals k _ hmem
      have : y = x := by
        have h1 := mem_getT hS hx
        rw [mem_getT hS hy] at h1
        cases h1
        rfl
      rw [← this] at hr ⊢
      exact hr) H8
    refine tab_set (kt := 2) (et := 40) (x := x) (by kernel_rfl) (by kernel_rfl) (H9.ordT 5 [2, 0, 3, 4, 1]) fun h3 H10 => ?_
    refine hag h3 ?_
    have H11 : sat ((exi fun T' : List (Int × List Nat) => Many [pur (∀ j, getT T' j = if j ∈ (done ++ [(k, Value.slice a x.length c)]).map (·.1) then getT S j else getT T j), tabM Bs db T']) :: pt r o :: pt sb (.map es clock) :: roP (TabIs Bs m S) :: F) h3 := by
      refine sat_exi.2 ⟨setT k x T', sat.shut (m := [_, _]) (sat_pur.2 ⟨fun j => ?_, H10⟩)⟩
      by_cases e : j = k
      · subst e
        rw [getT_set_self, if_pos (by simp), mem_getT hS hx]
      · have hm2 : j ∈ (done ++ [(k, Value.slice a x.length c)]).map (·.1) ↔ j ∈ done.map (·.1) := by
          rw [List.map_append, List.mem_append]
          exact ⟨fun h => h.elim id fun h => absurd (by simpa using h) e, .inl⟩
        rw [getT_set_ne _ (Ne.symm e), hk]
        by_cases hj : j ∈ done.map (·.1)
        · rw [if_pos hj, if_pos (hm2.2 hj)]
        · rw [if_neg hj, if_neg fun h => hj (hm2.1 h)]
    exact H11.bk 2
theorem F95_spec (H : sat (logM b fsb M :: F) h) : CallsH Tryz.prog 95 [ptrV b] h fun v h' => ∃ eb, v = .map (some eb) ∧ sat (tabM Bs eb M.entries :: logM b fsb M :: F) h' := by
  obtain ⟨s, f, m, H2⟩ := logM_open H
  apply F95_ok
  unfold F95
  rw [NN'_some]
  refine LdMp (x := s) H2 rfl ?_
  refine (F147_spec (H2.mv 1)).mono ?_
  rintro v h1 ⟨eb, rfl, H3⟩
  rw [DM_map, NN'_some]
  refine LdMp (x := m) (H3.mv 2) rfl ?_
  -- eb, s, b, f, m
  refine (F148_spec (H3.ordT 5 [0, 4, 2, 1, 3])).mono ?_
  rintro v h2 ⟨rfl, H4⟩
  refine ⟨rfl, eb, rfl, ?_⟩
  -- eb, m, b, s, f
  exact (logM_shut (H4.ordT 5 [2, 3, 4, 1, 0])).mv 1
theorem F89_spec (H : sat (logM b fsb M :: F) h) : CallsH Tryz.prog 89 [ptrV b] h fun v h' => v = .int .i64 (topT M.Fo) ∧ sat (logM b fsb M :: F) h' := by
  obtain ⟨s, f, m, H2⟩ := logM_open H
  apply F89_ok
  unfold F89
  rw [NN'_some]
  refine LdMp (x := f) H2 rfl ?_
  obtain ⟨ms, H3⟩ := tabM_open (H2.mv 2)
  obtain ⟨es, clock, hm, H4⟩ := ownM_open H3
  have I := roP_get (H4.mv 1)
  refine range_sat (k := 2) (e := 4) (by kernel_rfl) H4 H4.get fun r h1 H5 => ?_
  rw [DP_pointer]
  -- r, f, TabIs, b, s, m, F
  refine mapLoopI hm (fun done => (done.map (·.1)).foldl max (-1)) (G := fun _ => roP (TabIs Bb ms M.Fo) :: pt b (.cells (logC5 fsb M.dir s f m) 133 (0, 0)) :: tabM Bs s M.S :: tabM Bs m M.D :: F) H5 ?_ ?_
  · intro done h2 hp H6
    refine ⟨?_, ?_⟩
    · rw [foldl_max_perm ((hp.map (·.1)).trans (I.perm hm.nodup))]
      rfl
    · have H7 := tabM_shut (ownM_shut hm H6)
      exact logM_shut (H7.ordT 4 [1, 2, 0, 3])
  · rintro o done k v h2 again ⟨rest, hp⟩ H6 hag
    refine ⟨k, v, rfl, ?_⟩
    have := hag h2 H6
    have e : ((done ++ [(k, v)]).map (·.1)).foldl max (-1) = if k > (done.map (·.1)).foldl max (-1) then k else (done.map (·.1)).foldl max (-1) := by
      rw [List.map_append, List.foldl_append]
      show max _ k = _
      split <;> omega
    rw [e] at this
    exact this
theorem F30_spec (H : sat (logM b fsb M :: F) h) : CallsH Tryz.prog 30 [ptrV b] h fun v h' => v = .int .i64 (M.entries.length : Int) ∧ sat (logM b fsb M :: F) h' := by
  apply F30_ok
  unfold F30
  rw [show (some (⟨b, 0, none⟩ : Addr)).isNone = false from rfl, cond_false]
  refine (F95_spec H).mono ?_
  rintro v h1 ⟨eb, rfl, H1⟩
  rw [DM_map]
  obtain ⟨es, f, h1, h2, _⟩ := tab_look H1 0
  exact ⟨es, h1, by rw [h2], H1.drop⟩
end
end Go.Proofs.YticjjdhaikbdaaaGreat
