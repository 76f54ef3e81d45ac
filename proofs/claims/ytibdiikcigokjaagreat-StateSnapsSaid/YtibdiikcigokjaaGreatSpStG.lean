/- StateSnaps (seat S). -/
import Derived.Test.YtibdiikcigokjaaGreatSpStY
namespace Go.Proofs.YtibdiikcigokjaaGreat
open Go Go.RowKit Go.MapKept
set_option linter.unusedVariables false
set_option linter.unusedSimpArgs false
open AF (nmI IdOk Live Has Upd Dirc ltB goG)
open TS (Ch chC Diffs appL VT tabZ tabP)

/-- Slices of pairs that came in. -/
structure PSl where
  a : Option Addr
  l : Nat
  c : Nat
  ps : Prs
def PSl.v (q : PSl) : Value := .slice q.a q.l q.c
structure PIn (h : Heap) (q : PSl) : Prop where
  rd : RdC h q.a (q.ps.flatMap pairC)
  len : q.ps.length = q.l
  small : ∀ p ∈ q.ps, p.1.size ≤ 140737488355328 ∧ p.2.size ≤ 140737488355328
theorem PIn.old {h h' : Heap} {F : List HProp} {q : PSl} (H : PIn h q) (hs : sat (old h :: F) h') : PIn h' q := ⟨H.rd.old hs, H.len, H.small⟩
/-- The tables of some steps: what is too big counts as none. -/
def stepG (ss : List PSl) (k : Int) : Tb.T VT := if 1 ≤ k then (match ss[(k - 1).toNat]? with
  | some q => if bigL q.ps = true then [] else riseL q.ps
  | none => []) else []
theorem bigL_small {ps : Prs} (h : bigL ps = false) : ps.length ≤ 60 ∧ ∀ p ∈ ps, p.1.size + p.2.size ≤ 300 := by
  unfold bigL at h
  simp only [Bool.or_eq_false_iff, decide_eq_false_iff_not, List.any_eq_false, decide_eq_true_eq] at h
  exact ⟨by omega, fun p hp => by have := h.2 p hp; omega⟩
theorem stepG_facts (ss : List PSl) (k : Int) : Tb.Up (stepG ss k) ∧ (stepG ss k).length ≤ 60 ∧ ∀ p ∈ stepG ss k, p.1.size + p.2.size ≤ 300 := by
  have e : Tb.Up ([] : Tb.T VT) ∧ ([] : Tb.T VT).length ≤ 60 ∧ ∀ p ∈ ([] : Tb.T VT), p.1.size + p.2.size ≤ 300 := ⟨Tb.Up.nil, by simp, by simp⟩
  unfold stepG
  split
  · split
    · rename_i q _
      split
      · exact e
      · rename_i hb
        obtain ⟨h1, h2⟩ := bigL_small (by simpa using hb)
        exact ⟨riseL_up _, Nat.le_trans (riseL_len _) h1, fun p hp => h2 p (riseL_mem _ p hp)⟩
    · exact e
  · exact e
theorem stepG_at {ss : List PSl} {i : Nat} {q : PSl} (hq : ss[i]? = some q) (hb : bigL q.ps = false) : stepG ss ((i + 1 : Nat) : Int) = riseL q.ps := by
  unfold stepG
  rw [if_pos (by omega), show (((i + 1 : Nat) : Int) - 1).toNat = i by omega, hq]
  simp only [hb, Bool.false_eq_true, if_false]
theorem stepG_fit (ss : List PSl) (v : Int) (d : List Ch) (D : Diffs (stepG ss (v - 1)) (stepG ss v) d) : Fit (chPairs d) ∧ (pairsN (chPairs d)).length ≤ 38530 := by
  obtain ⟨u1, l1, s1⟩ := stepG_facts ss (v - 1)
  obtain ⟨u2, l2, s2⟩ := stepG_facts ss v
  exact (diffs_fit (n := 120) (m := 300) D u1 u2 (by omega) (by decide) s1 s2 (by decide)).imp id fun h => by omega
theorem stepG_fitS (ss : List PSl) (v : Int) : Fit (stepG ss v) ∧ (pairsN (stepG ss v)).length ≤ 19210 := by
  obtain ⟨u2, l2, s2⟩ := stepG_facts ss v
  exact (fit_of (n := 60) (m := 300) l2 (by decide) s2 (by decide)).imp id fun h => by omega
/-- Numbers from one on, as many as there may be. -/
theorem len_upto {D : List (Int × Unit)} (hu : UpT D) {n : Nat} (h : ∀ x, (x, ()) ∈ D → 1 ≤ x ∧ x ≤ (n : Int)) : D.length ≤ n := by
  have := AF.nodup_len (l := D.map (·.1)) (m := (List.range n).map fun j : Nat => (j : Int) + 1) hu.nodup fun x hx => by
    obtain ⟨h1, h2⟩ := h x (memU hx)
    exact List.mem_map.2 ⟨(x - 1).toNat, List.mem_range.2 (by omega), by omega⟩
  simpa using this
theorem len_from {D : List (Int × Unit)} {n : Nat} (h : ∀ x : Int, 1 ≤ x → x ≤ (n : Int) → (x, ()) ∈ D) : n ≤ D.length := by
  have nd : ((List.range n).map fun j : Nat => (j : Int) + 1).Nodup := by
    rw [List.Nodup, List.pairwise_map]
    exact (List.nodup_range (n := n)).imp fun {a b} hab => by omega
  have := AF.nodup_len (m := D.map (·.1)) nd fun x hx => by
    obtain ⟨j, hj, rfl⟩ := List.mem_map.1 hx
    have := List.mem_range.1 hj
    exact memSet (h ((j : Int) + 1) (by omega) (by omega))
  simpa using this
/-- Which numbers a store has behind snapshots and drops: all deltas behind the one snapshot. -/
structure JD (m : Int) (i : Nat) (S : Sto) : Prop where
  lo : 0 ≤ m
  hi : m ≤ (i : Int)
  D : ∀ x, (x, ()) ∈ S.D ↔ m < x ∧ x ≤ (i : Int)
  N : ∀ x, (x, ()) ∈ S.N ↔ x = m ∧ 1 ≤ m
theorem JD.len {m : Int} {i : Nat} {S : Sto} (J : JD m i S) (hD : UpT S.D) (hN : UpT S.N) : S.D.length ≤ i ∧ S.N.length ≤ 1 := by
  refine ⟨len_upto hD fun x hx => ?_, ?_⟩
  · have := (J.D x).1 hx
    have := J.lo
    omega
  · have := AF.nodup_len (l := S.N.map (·.1)) (m := [m]) hN.nodup fun x hx => by
      have := (J.N x).1 (memU hx)
      simp [this.1]
    simpa using this
theorem JD.near {m : Int} {i : Nat} {S : Sto} (J : JD m i S) (v : Int) (hv : 0 ≤ v) : nearL (S.N.map (·.1)) v = if 1 ≤ m ∧ m ≤ v then m else 0 := by
  obtain ⟨h1, h2, h3, h4⟩ := nearL_facts (S.N.map (·.1)) v hv
  split
  · rename_i h
    have := h4 m (memSet ((J.N m).2 ⟨rfl, h.1⟩)) h.2
    rcases h3 with h3 | h3
    · omega
    · exact ((J.N _).1 (memU h3)).1
  · rename_i h
    rcases h3 with h3 | h3
    · exact h3
    · have := (J.N _).1 (memU h3)
      omega
theorem JD.step {m s : Int} {i e : Nat} {S S' S'' : Sto} (J : JD m i S) (h1 : 1 ≤ s) (h2 : s ≤ (i : Int)) (D1 : S'.D = S.D) (N1 : ∀ p ∈ S.N, p ∈ S'.N) (N2 : ∀ p ∈ S'.N, p ∈ S.N ∨ (p.1 = s ∧ e = 0)) (N3 : e = 0 → (s, ()) ∈ S'.N)
    (N4 : e = 0 → (s, ()) ∈ S.N ∨ ∀ k, nearL (S.N.map (·.1)) s < k → k ≤ s → (k, ()) ∈ S.D) (Z : nearL (S'.N.map (·.1)) s = 0 → S'' = S')
    (NZ : nearL (S'.N.map (·.1)) s ≠ 0 → S''.D = S'.D.filter (fun x => !decide (x.1 ≤ nearL (S'.N.map (·.1)) s)) ∧ S''.N = S'.N.filter (fun x => !decide (x.1 < nearL (S'.N.map (·.1)) s))) : ∃ m', JD m' i S'' := by
  have lo := J.lo
  have hi := J.hi
  obtain ⟨n1, n2, n3, n4⟩ := nearL_facts (S'.N.map (·.1)) s (by omega)
  by_cases hadd : e = 0 ∧ (s, ()) ∉ S.N
  · obtain ⟨he, hno⟩ := hadd
    have hall := (N4 he).resolve_left hno
    have hsm : m < s := by
      rcases Int.lt_or_le m s with h | h
      · exact h
      · have hnear := J.near s (by omega)
        have hne : ¬ (1 ≤ m ∧ m ≤ s) := fun hh => hno ((J.N s).2 ⟨by omega, by omega⟩)
        rw [if_neg hne] at hnear
        have := (J.D s).1 (hall s (by omega) (Int.le_refl _))
        omega
    have hns : nearL (S'.N.map (·.1)) s = s := by
      have := n4 s (memSet (N3 he)) (Int.le_refl _)
      omega
    obtain ⟨e1, e2⟩ := NZ (by omega)
    rw [hns] at e1 e2
    refine ⟨s, by omega, h2, fun x => ?_, fun x => ?_⟩
    · rw [e1, D1, List.mem_filter, J.D]
      simp only [Bool.not_eq_true', decide_eq_false_iff_not]
      omega
    · rw [e2, List.mem_filter]
      simp only [Bool.not_eq_true', decide_eq_false_iff_not]
      constructor
      · rintro ⟨hx, hlt⟩
        rcases N2 _ hx with hx | ⟨hx, _⟩
        · have := (J.N x).1 hx
          omega
        · exact ⟨hx, h1⟩
      · rintro ⟨rfl, _⟩
        exact ⟨N3 he, by omega⟩
  · have same : ∀ x, (x, ()) ∈ S'.N ↔ (x, ()) ∈ S.N := fun x => by
      refine ⟨fun hx => ?_, fun hx => N1 _ hx⟩
      rcases N2 _ hx with hx | ⟨hx, he⟩
      · exact hx
      · have hx' : x = s := hx
        rw [hx']
        exact Classical.not_not.1 fun hh => hadd ⟨he, hh⟩
    have J' : JD m i S' := ⟨lo, hi, fun x => by rw [D1]; exact J.D x, fun x => by rw [same]; exact J.N x⟩
    by_cases h0 : nearL (S'.N.map (·.1)) s = 0
    · rw [Z h0]
      exact ⟨m, J'⟩
    · obtain ⟨e1, e2⟩ := NZ h0
      have hm : nearL (S'.N.map (·.1)) s = m := by
        have := J'.near s (by omega)
        split at this
        · exact this
        · exact absurd this h0
      rw [hm] at e1 e2
      refine ⟨m, lo, hi, fun x => ?_, fun x => ?_⟩
      · rw [e1, List.mem_filter, J'.D]
        simp only [Bool.not_eq_true', decide_eq_false_iff_not]
        omega
      · rw [e2, List.mem_filter, J'.N]
        simp only [Bool.not_eq_true', decide_eq_false_iff_not]
        omega
theorem JD.more {m : Int} {i : Nat} {S : Sto} (J : JD m i S) (hu : UpT S.D) : JD m (i + 1) (laidS S 100 ((i + 1 : Nat) : Int)) := by
  have lo := J.lo
  have hi := J.hi
  have eS : laidS S 100 ((i + 1 : Nat) : Int) = { S with D := setT ((i + 1 : Nat) : Int) () S.D } := if_pos rfl
  rw [eS]
  refine ⟨lo, by omega, fun x => ?_, J.N⟩
  rw [mem_setT hu, J.D, Prod.mk.injEq]
  constructor
  · rintro (⟨rfl, _⟩ | ⟨_, h⟩) <;> omega
  · intro h
    by_cases e : x = ((i + 1 : Nat) : Int)
    · exact .inl ⟨e, rfl⟩
    · exact .inr ⟨e, by omega⟩
def sA : ByteArray := ⟨#[97]⟩
def sB : ByteArray := ⟨#[98]⟩
structure SJ (G : Int → Tb.T VT) (i : Nat) (A : AF.FS) (Sa Sb : Sto) (Ta Tb : Dirc) (ca cb : Cnt) : Prop where
  live : Live A
  ia : SF Sa Ta ca
  ib : SF Sb Tb cb
  ha : Has A Sa.dir Ta
  hb : Has A Sb.dir Tb
  da : Sa.dir = sA
  db : Sb.dir = sB
  ca : CntOk Sa ca G
  cb : CntOk Sb cb G
  ja : ∃ m, JD m i Sa
  jb : JD 0 i Sb
  room : A.room = 16777216
  used : A.used ≤ i * 100000
  steps : A.steps ≤ 2 + i * 100
theorem sAB : sB ≠ sA := by decide
section
variable {h : Heap}
set_option maxHeartbeats 2000000 in
theorem StateSnaps_law {sa na : Option Addr} {sl sc nl nc : Nat} {ss : List PSl} {cs : List Nat} (hS : RdC h sa (ss.map PSl.v)) (hsl : ss.length = sl) (hP : ∀ q ∈ ss, PIn h q) (hN : RdC h na (cs.map nv)) (hnl : cs.length = nl) (hB8 : B8 cs) :
    CallsH Tryz.prog 4 [.slice sa sl sc, .slice na nl nc] h (Good h) := by
  apply F4_ok
  unfold F4
  refine (F7_spec (sat_old h)).mono ?_
  rintro v h1 ⟨rfl, H1⟩
  rw [DB_bool, Bool.not_true, cond_false]
  by_cases hbig : 12 < sl
  · rw [decide_eq_true (show (sl : Int) > 12 by omega), cond_true]
    exact good_of H1
  rw [decide_eq_false (show ¬ (sl : Int) > 12 by omega), cond_false]
  refine (live_F14 (room := 16777216) (by decide) H1).mono ?_
  rintro v h2 ⟨fb, rfl, L0, H2⟩
  refine ⟨some ⟨fb, 0, none⟩, 0, rfl, ?_⟩
  refine (sto_open (dir := sA) L0 (by decide) (by decide) rfl (by decide) H2).mono ?_
  rintro v h3 ⟨la0, A1, rfl, u1, H3⟩
  have r1 : A1.room = 16777216 := u1.room
  have s1 : A1.steps ≤ 0 + 1 := u1.steps
  have n1 : A1.used ≤ 0 + 0 := u1.used
  have d1 : A1.dirs.length ≤ 0 + 1 := u1.few
  refine ⟨some ⟨la0, 0, none⟩, 0, rfl, ?_⟩
  refine (sto_open (dir := sB) u1.live (by omega) (by decide) (u1.gone _ sAB rfl) (by omega) (H3.mv 1)).mono ?_
  rintro v h4 ⟨lb, A2, rfl, u2, H4⟩
  refine ⟨some ⟨lb, 0, none⟩, 0, rfl, ?_⟩
  rw [show ((0 : Int) != 0) = false from rfl, cond_false, cond_false]
  -- b, fs, a, old
  refine (F15_nil H4).mono ?_
  rintro v h5 ⟨tw0, rfl, H5⟩
  refine ⟨some ⟨tw0, 0, none⟩, rfl, ?_⟩
  have J0 : SJ (stepG ss) 0 A2 ⟨sA, [], []⟩ ⟨sB, [], []⟩ [] [] (fun _ _ => []) (fun _ _ => []) := by
    have cn : ∀ dir, CntOk ⟨dir, [], []⟩ (fun _ _ => []) (stepG ss) := fun dir => CntOk.new _ _ rfl (fun k => (stepG_facts ss k).1) (fun k => by have := (stepG_facts ss k).2.1; omega)
    have jd : ∀ dir, JD 0 0 ⟨dir, [], []⟩ := fun dir => ⟨Int.le_refl _, Int.le_refl _, fun x => ⟨fun h => (by cases h), fun h => (by omega)⟩, fun x => ⟨fun h => (by cases h), fun h => (by omega)⟩⟩
    exact ⟨u2.live, SF.new _ _, SF.new _ _, u2.els _ _ (Ne.symm sAB) u1.here, u2.here, rfl, rfl, cn _, cn _, ⟨0, jd _⟩, jd _, by rw [u2.room, r1], by have := u2.used; omega, by have := u2.steps; omega⟩
  refine LoopH.upto sl (fun i (s : Option Addr × Option Addr × Int) h' => s.2.2 = (i : Int) ∧ i ≤ sl ∧ ∃ A Sa Sb Ta Tb ca cb la tw, s.1 = some ⟨la, 0, none⟩ ∧ s.2.1 = some ⟨tw, 0, none⟩ ∧ SJ (stepG ss) i A Sa Sb Ta Tb ca cb ∧
      sat (stoM la fb Sa :: stoM lb fb Sb :: fsP fb A :: tabP tw (stepG ss (i : Int)) :: [old h]) h') (fun s => sl - s.2.2.toNat) (fun i s h' hh => ⟨hh.2.1, by rw [hh.1]; omega⟩)
    ⟨rfl, Nat.zero_le _, A2, _, _, _, _, _, _, la0, tw0, rfl, rfl, J0, H5.ordT 5 [3, 1, 2, 0, 4]⟩ ?_ ?_
  rotate_left
  · rintro ⟨p1, p2, p3⟩ h6 again ⟨e3, _, A, Sa, Sb, Ta, Tb, ca, cb, la, tw, e1, e2, J, H6⟩
    dsimp only at e1 e2 e3
    subst e1 e2 e3
    dsimp only
    rw [decide_eq_false (by omega), cond_false]
    exact good_of (H6.mv 4)
  rintro i ⟨p1, p2, p3⟩ h6 again hi ⟨e3, _, A, Sa, Sb, Ta, Tb, ca, cb, la, tw, e1, e2, J, H6⟩ go
  dsimp only at e1 e2 e3
  subst e1 e2 e3
  dsimp only
  rw [decide_eq_true (show ((i : Int) < (sl : Int)) by omega), cond_true]
  obtain ⟨q, hq⟩ : ∃ x, ss[i]? = some x := ⟨_, List.getElem?_eq_getElem (by omega)⟩
  have hPq := hP q (List.mem_of_getElem? hq)
  have hget : ∀ {F' : List HProp} {h' : Heap} {K : Option Addr → Nat → Nat → Prop}, sat (old h :: F') h' → K q.a q.l q.c → IdxA sa sl (i : Int) 1 fun a => Ld h' a fun v => DSl v K := by
    intro F' h' K H' hK
    exact IdxA_nat (hS.old H') (by rw [List.length_map, hsl]) (by rw [List.getElem?_map, hq]; rfl) fun b hb hc => CSl (p := q.a) (l := q.l) (c := q.c) hc hK
  refine hget (H6.mv 4) ?_
  refine (F16_spec (hPq.old (H6.mv 4)).rd hPq.len hPq.small).mono ?_
  rintro v h7 ⟨rfl, rfl⟩
  rw [DB_bool]
  cases hb : bigL q.ps with
  | true => rw [cond_true]; exact good_of (H6.mv 4)
  | false =>
  rw [cond_false]
  obtain ⟨b1, b2⟩ := bigL_small hb
  refine hget (H6.mv 4) ?_
  refine (F17_spec (F := stoM la fb Sa :: stoM lb fb Sb :: fsP fb A :: tabP tw (stepG ss (i : Int)) :: [old h]) (ps := q.ps) (fun h' hh => (hPq.old (hh.mv 4)).rd) hPq.len (by have := hPq.len; omega) H6).mono ?_
  rintro v h8 ⟨ra, rc, rfl, H8⟩
  rw [DSl_slice]
  refine (F15_spec (F := ownS 50 2 ra (riseL q.ps).length rc ((riseL q.ps).flatMap pairC) :: stoM la fb Sa :: stoM lb fb Sb :: fsP fb A :: tabP tw (stepG ss (i : Int)) :: [old h]) (ps := riseL q.ps) (fun h' hh => ownS_read hh) rfl (by have := riseL_len q.ps; omega) H8).mono ?_
  rintro v h9 ⟨tn, rfl, H9⟩
  rw [ofL_up (riseL_up q.ps)] at H9
  refine ⟨some ⟨tn, 0, none⟩, rfl, ?_⟩
  have eG : stepG ss ((i + 1 : Nat) : Int) = riseL q.ps := stepG_at hq hb
  rw [wrap64_succ (show i < 9223372036854775807 by omega)]
  have H10 : sat (stoM la fb Sa :: fsP fb A :: tabZ (some ⟨tw, 0, none⟩) (stepG ss (((i + 1 : Nat) : Int) - 1)) :: tabZ (some ⟨tn, 0, none⟩) (stepG ss ((i + 1 : Nat) : Int)) :: stoM lb fb Sb :: [old h]) h9 := by
    rw [show ((i + 1 : Nat) : Int) - 1 = (i : Int) by omega, eG]
    exact (TS.tabZ_some ((TS.tabZ_some H9).mv 5)).ordT 7 [3, 5, 0, 1, 4, 6]
  obtain ⟨m0, ja⟩ := J.ja
  have la_len := ja.len J.ia.upD J.ia.upN
  have lb_len := J.jb.len J.ib.upD J.ib.upN
  have jst := J.steps
  have jus := J.used
  have jrm := J.room
  have szA : sA.size = 1 := rfl
  have szB : sB.size = 1 := rfl
  have vok : VOk ((i + 1 : Nat) : Int) := ⟨by omega, by omega⟩
  refine (commit_live (v := ((i + 1 : Nat) : Int)) (w := 38530) J.ia J.live J.ha J.ca (by omega) (by rw [J.da, szA]; omega) (by omega) vok (stepG_fit ss _) (by omega) H10).mono ?_
  rintro v h11 ⟨A3, Ta3, ca3, rfl, I3, C3, u3, H11⟩
  have u3s := u3.steps
  have u3u := u3.used
  have u3r := u3.room
  rw [DI_int, show ((0 : Int) != 0) = false from rfl, cond_false]
  -- a, fs, tw, tn, b, old
  refine (commit_live (v := ((i + 1 : Nat) : Int)) (w := 38530) J.ib u3.live (u3.els _ _ (by rw [J.da, J.db]; exact sAB) J.hb) J.cb (by omega) (by rw [J.db, szB]; omega) (by omega) vok (stepG_fit ss _) (by omega) (H11.ordT 6 [4, 1, 2, 3, 0, 5])).mono ?_
  rintro v h12 ⟨A4, Tb4, cb4, rfl, I4, C4, u4, H12⟩
  have u4s := u4.steps
  have u4u := u4.used
  have u4r := u4.room
  rw [DI_int, show ((0 : Int) != 0) = false from rfl, cond_false]
  -- b, fs, tw, tn, a, old
  have H13 : sat (stoM la fb (laidS Sa 100 ((i + 1 : Nat) : Int)) :: stoM lb fb (laidS Sb 100 ((i + 1 : Nat) : Int)) :: fsP fb A4 :: tabZ (some ⟨tn, 0, none⟩) (stepG ss ((i + 1 : Nat) : Int)) :: [old h]) h12 := H12.ordT 6 [4, 0, 1, 3, 5]
  have J4 : SJ (stepG ss) (i + 1) A4 (laidS Sa 100 ((i + 1 : Nat) : Int)) (laidS Sb 100 ((i + 1 : Nat) : Int)) Ta3 Tb4 ca3 cb4 :=
    ⟨u4.live, I3, I4, by rw [laidS_dir]; exact u4.els _ _ (by rw [J.da, J.db]; exact Ne.symm sAB) u3.here, by rw [laidS_dir]; exact u4.here, by rw [laidS_dir, J.da], by rw [laidS_dir, J.db], C3, C4, ⟨m0, ja.more J.ia.upD⟩, J.jb.more J.ib.upD, by omega, by omega, by omega⟩
  generalize hSb : laidS Sb 100 ((i + 1 : Nat) : Int) = Sb' at H13 J4
  have jus4 : A4.used ≤ i * 100000 + 77076 := by omega
  have jst4 : A4.steps ≤ 2 + i * 100 + 10 := by omega
  clear H12 H11 H10 H9 H8 H6 I3 I4 C3 C4
  generalize laidS Sa 100 ((i + 1 : Nat) : Int) = Sa' at H13 J4
  clear hSb
  -- what comes of both
  have tail : ∀ {A : AF.FS} {Sa : Sto} {Ta : Dirc} {ca : Cnt} {pa : Nat} {h' : Heap}, SJ (stepG ss) (i + 1) A Sa Sb' Ta Tb4 ca cb4 → sat (stoM pa fb Sa :: stoM lb fb Sb' :: fsP fb A :: tabZ (some ⟨tn, 0, none⟩) (stepG ss ((i + 1 : Nat) : Int)) :: [old h]) h' →
      CallsH Tryz.prog 8 [ptrV pa, .int .i64 ((i + 1 : Nat) : Int)] h' fun r h_14 => ∃ (x : Option Addr), ∃ (y : Int), r = .tuple #[.pointer x, .int .i64 y] ∧
        CallsH Tryz.prog 8 [ptrV lb, .int .i64 ((i + 1 : Nat) : Int)] h_14 fun r2 h_15 => ∃ (x2 : Option Addr), ∃ (y2 : Int), r2 = .tuple #[.pointer x2, .int .i64 y2] ∧
          (bif y != 0 then Good h (.bool false) h_15 else (bif y2 != 0 then Good h (.bool false) h_15 else
            CallsH Tryz.prog 18 [.pointer x, .pointer x2] h_15 fun r3 h_16 => DSl r3 fun xa xl xc => (bif (xl : Int) != 0 then Good h (.bool false) h_16 else
              CallsH Tryz.prog 18 [.pointer x, ptrV tn] h_16 fun r4 h_17 => DSl r4 fun ya yl yc => (bif (yl : Int) != 0 then Good h (.bool false) h_17 else
                CallsH Tryz.prog 13 [ptrV pa] h_17 fun r5 h_18 => DI .i64 r5 fun z => CallsH Tryz.prog 13 [ptrV lb] h_18 fun r6 h_19 => DI .i64 r6 fun z2 =>
                  (bif decide (z > IntKind.wrap .i64 (z2 + 1)) then Good h (.bool false) h_19 else again (some ⟨pa, 0, none⟩, some ⟨tn, 0, none⟩, ((i + 1 : Nat) : Int)) h_19))))) := by
    intro A Sa Ta ca pa h' J H'
    obtain ⟨m1, ja⟩ := J.ja
    have lo := ja.lo
    have hi2 := ja.hi
    have la_len := ja.len J.ia.upD J.ia.upN
    have lb_len := J.jb.len J.ib.upD J.ib.upN
    have lbD := len_from (D := Sb'.D) (n := i + 1) fun x h1 h2 => (J.jb.D x).2 ⟨by omega, by omega⟩
    have sm := (stepG_facts ss ((i + 1 : Nat) : Int)).2.1
    refine (F8_spec (v := ((i + 1 : Nat) : Int)) J.ia J.live J.ha J.ca (by rw [J.da, szA]; omega) (by omega) (by omega) (H'.ordT 5 [0, 2, 1, 3, 4])).mono ?_
    rintro r h14 (⟨_, t1, rfl, H14⟩ | ⟨hno, _⟩)
    rotate_left
    · refine (hno fun k h1 h2 => (ja.D k).2 ⟨?_, h2⟩).elim
      rw [ja.near _ (by omega)] at h1
      split at h1 <;> omega
    refine ⟨some ⟨t1, 0, none⟩, 0, rfl, ?_⟩
    -- t1, a, fs, b, tn, old
    refine (F8_spec (v := ((i + 1 : Nat) : Int)) J.ib J.live J.hb J.cb (by rw [J.db, szB]; omega) (by omega) (by omega) (H14.ordT 6 [3, 2, 0, 1, 4, 5])).mono ?_
    rintro r h15 (⟨_, t2, rfl, H15⟩ | ⟨hno, _⟩)
    rotate_left
    · refine (hno fun k h1 h2 => (J.jb.D k).2 ⟨?_, h2⟩).elim
      rw [J.jb.near _ (by omega)] at h1
      split at h1 <;> omega
    refine ⟨some ⟨t2, 0, none⟩, 0, rfl, ?_⟩
    rw [show ((0 : Int) != 0) = false from rfl, cond_false, cond_false]
    -- t2, b, fs, t1, a, tn, old
    have H16 := TS.tabZ_some ((TS.tabZ_some H15).mv 3)
    -- t1, t2, b, fs, a, tn, old
    refine (TS.F18_spec (by omega) (by omega) H16).mono ?_
    rintro r h16 ⟨sa1, n1, c1, d1, rfl, hn1, D1, H17⟩
    have e1 := TS.diff_self D1
    subst e1
    have e2 : n1 = 0 := hn1.symm
    subst e2
    rw [DSl_slice, show (((0 : Nat) : Int) != 0) = false from rfl, cond_false]
    -- own, t1, t2, b, fs, a, tn, old
    refine (TS.F18_spec (by omega) (by omega) (H17.ordT 8 [1, 6, 3, 4, 5, 7])).mono ?_
    rintro r h17 ⟨sa2, n2, c2, d2, rfl, hn2, D2, H18⟩
    have e1 := TS.diff_self D2
    subst e1
    have e2 : n2 = 0 := hn2.symm
    subst e2
    rw [DSl_slice, show (((0 : Nat) : Int) != 0) = false from rfl, cond_false]
    -- own, t1, tn, b, fs, a, old
    refine (F13_spec (H18.mv 5) (by omega)).mono ?_
    rintro r h18 ⟨rfl, H19⟩
    -- a, own, t1, tn, b, fs, old
    rw [DI_int]
    refine (F13_spec (H19.mv 4) (by omega)).mono ?_
    rintro r h19 ⟨rfl, H20⟩
    -- b, a, own, t1, tn, fs, old
    rw [DI_int, wrap64_succ (by omega), decide_eq_false (by omega), cond_false]
    refine go _ _ ⟨rfl, by omega, A, Sa, Sb', Ta, Tb4, ca, cb4, pa, tn, rfl, rfl, J, ?_⟩
    exact (TS.tabZ_some' (H20.mv 4)).ordT 7 [2, 1, 5, 0, 6]
  by_cases hin : i < nl
  rotate_left
  · rw [decide_eq_false (show ¬ ((i : Int) < (nl : Int)) by omega), cond_false]
    exact tail J4 H13
  rw [decide_eq_true (show ((i : Int) < (nl : Int)) by omega), cond_true]
  obtain ⟨c, hc⟩ : ∃ x, cs[i]? = some x := ⟨_, List.getElem?_eq_getElem (by omega)⟩
  have hc8 := hB8 c (List.mem_of_getElem? hc)
  have hgetN : ∀ {F' : List HProp} {h' : Heap} {K : Int → Prop}, sat (old h :: F') h' → K (c : Int) → IdxA na nl (i : Int) 1 fun a => Ld h' a fun v => DI .u8 v K := by
    intro F' h' K H' hK
    exact IdxA_nat (hN.old H') (by rw [List.length_map, hnl]) (by rw [List.getElem?_map, hc]; rfl) fun b hb hcell => ⟨nv c, hcell, (c : Int), rfl, hK⟩
  refine hgetN (H13.mv 4) ⟨by omega, ?_⟩
  obtain ⟨s, hs⟩ : ∃ s : Nat, s = 1 + c % (i + 1) := ⟨_, rfl⟩
  have hs1 : c % (i + 1) < i + 1 := Nat.mod_lt _ (by omega)
  have eS : IntKind.wrap .i64 (1 + Int.tmod (IntKind.wrap .i64 (c : Int)) ((i + 1 : Nat) : Int)) = (s : Int) := by
    rw [wrap64_nat (by omega), tmod_nat, IntWalk.i64_in _ (by omega), hs]
    omega
  rw [eS]
  obtain ⟨m1, ja1⟩ := J4.ja
  have la1 := ja1.len J4.ia.upD J4.ia.upN
  have jrm4 := J4.room
  refine (snap_live (v := (s : Int)) (w := 19210) J4.ia J4.live J4.ha J4.ca (by omega) (by rw [J4.da, szA]; omega) (by omega) ⟨by omega, by omega⟩ (stepG_fitS ss _) (by omega) (H13.ordT 5 [0, 2, 1, 3, 4])).mono ?_
  rintro r h14 ⟨A5, S5, T5, c5, e5, rfl, he5, I5, C5, d5, D5, N1, N2, N3, l5, ok5, ko5, u5, H14⟩
  have u5s := u5.steps
  have u5u := u5.used
  have u5r := u5.room
  have few5 : S5.D.length + S5.N.length < 4000 := by rw [D5]; omega
  -- a, fs, b, tn, old
  have L5 : Has A5 S5.dir T5 := by rw [d5]; exact u5.here
  have DR := drop_live (v := (s : Int)) (h := h14) I5 u5.live L5 C5 (by omega) (by rw [d5, J4.da, szA]; omega) few5 H14
  have rest : ∀ {v : Value} {h' : Heap}, (∃ A' S' T', v = .int .i64 0 ∧ SF S' T' c5 ∧ CntOk S' c5 (stepG ss) ∧ S'.dir = S5.dir ∧ (nearL (S5.N.map (·.1)) (s : Int) = 0 → S' = S5) ∧
        (nearL (S5.N.map (·.1)) (s : Int) ≠ 0 → S'.D = S5.D.filter (fun x => !decide (x.1 ≤ nearL (S5.N.map (·.1)) (s : Int))) ∧ S'.N = S5.N.filter (fun x => !decide (x.1 < nearL (S5.N.map (·.1)) (s : Int)))) ∧
        Upd 0 0 (S5.D.length + S5.N.length + 1) A5 A' S5.dir T' ∧ sat (stoM la fb S' :: fsP fb A' :: stoM lb fb Sb' :: tabZ (some ⟨tn, 0, none⟩) (stepG ss ((i + 1 : Nat) : Int)) :: [old h]) h') →
      v = .int .i64 0 ∧ ∃ A6 S6 T6, SJ (stepG ss) (i + 1) A6 S6 Sb' T6 Tb4 c5 cb4 ∧ S6.dir = sA ∧ sat (stoM la fb S6 :: fsP fb A6 :: stoM lb fb Sb' :: tabZ (some ⟨tn, 0, none⟩) (stepG ss ((i + 1 : Nat) : Int)) :: [old h]) h' := by
    rintro v h' ⟨A6, S6, T6, rfl, I6, C6, d6, z6, nz6, u6, H'⟩
    have u6s := u6.steps
    have u6u := u6.used
    have u6r := u6.room
    have dS6 : S6.dir = sA := by rw [d6, d5, J4.da]
    refine ⟨rfl, A6, S6, T6, ⟨u6.live, I6, J4.ib, by rw [d6]; exact u6.here, u6.els _ _ (by rw [d5, J4.da, J4.db]; exact sAB) (u5.els _ _ (by rw [J4.da, J4.db]; exact sAB) J4.hb), dS6, J4.db, C6, J4.cb, ?_, J4.jb, by omega, by omega, ?_⟩, dS6, H'⟩
    · exact JD.step (e := e5) ja1 (by omega) (by omega) D5 N1 N2 N3 ko5 z6 nz6
    · rw [D5] at u6s
      omega
  have fin : ∀ {A6 : AF.FS} {S6 : Sto} {T6 : Dirc} {h' : Heap}, SJ (stepG ss) (i + 1) A6 S6 Sb' T6 Tb4 c5 cb4 → S6.dir = sA → sat (stoM la fb S6 :: fsP fb A6 :: stoM lb fb Sb' :: tabZ (some ⟨tn, 0, none⟩) (stepG ss ((i + 1 : Nat) : Int)) :: [old h]) h' →
      CallsH Tryz.prog 9 [ptrV fb, .string ⟨#[97]⟩] h' fun v h2 => ∃ b', v = .tuple #[ptrV b', .int .i64 0] ∧ sat (stoM b' fb S6 :: stoM lb fb Sb' :: fsP fb A6 :: tabZ (some ⟨tn, 0, none⟩) (stepG ss ((i + 1 : Nat) : Int)) :: [old h]) h2 := by
    intro A6 S6 T6 h' J6 hd H'
    have := sto_reopen J6.ia J6.live J6.ha (by have := J6.steps; omega) (by rw [hd, szA]; omega) (H'.mv 1)
    rw [hd] at this
    refine this.mono ?_
    rintro v h2 ⟨b', rfl, H2⟩
    exact ⟨b', rfl, H2.ordT 6 [0, 3, 1, 4, 5]⟩
  rw [DI_int]
  rcases he5 with rfl | rfl
  · rw [show (((0 : Nat) : Int) != 0) = false from rfl, cond_false]
    refine DR.mono fun v h15 hh => ?_
    obtain ⟨rfl, A6, S6, T6, J6, hd6, H15⟩ := rest hh
    rw [DI_int, show ((0 : Int) != 0) = false from rfl, cond_false]
    refine hgetN (H15.mv 4) ⟨by decide, ?_⟩
    cases hm : (Int.tmod (c : Int) 3 == 0) with
    | false =>
      rw [cond_false]
      exact tail J6 (H15.ordT 5 [0, 2, 1, 3, 4])
    | true =>
      rw [cond_true]
      refine (fin J6 hd6 H15).mono ?_
      rintro v h16 ⟨b', rfl, H16⟩
      refine ⟨some ⟨b', 0, none⟩, 0, rfl, ?_⟩
      rw [show ((0 : Int) != 0) = false from rfl, cond_false]
      exact tail J6 H16
  · rw [show (((180 : Nat) : Int) != 0) = true from rfl, cond_true, show (((180 : Nat) : Int) != 180) = false from rfl, cond_false]
    refine DR.mono fun v h15 hh => ?_
    obtain ⟨rfl, A6, S6, T6, J6, hd6, H15⟩ := rest hh
    rw [DI_int, show ((0 : Int) != 0) = false from rfl, cond_false]
    refine hgetN (H15.mv 4) ⟨by decide, ?_⟩
    cases hm : (Int.tmod (c : Int) 3 == 0) with
    | false =>
      rw [cond_false]
      exact tail J6 (H15.ordT 5 [0, 2, 1, 3, 4])
    | true =>
      rw [cond_true]
      refine (fin J6 hd6 H15).mono ?_
      rintro v h16 ⟨b', rfl, H16⟩
      refine ⟨some ⟨b', 0, none⟩, 0, rfl, ?_⟩
      rw [show ((0 : Int) != 0) = false from rfl, cond_false]
      exact tail J6 H16
end
end Go.Proofs.YtibdiikcigokjaaGreat
