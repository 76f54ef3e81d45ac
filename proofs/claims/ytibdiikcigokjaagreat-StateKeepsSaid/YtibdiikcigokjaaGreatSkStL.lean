/- StateKeeps, the loop (seat S). -/
import Derived.Test.YtibdiikcigokjaaGreatSkStK
namespace Go.Proofs.YtibdiikcigokjaaGreat
open Go Go.RowKit Go.MapKept
set_option linter.unusedVariables false
set_option linter.unusedSimpArgs false
open AF (nmI IdOk Live Has Upd Dirc ltB goG er Dur)
open TS (Ch chC Diffs appL VT tabZ tabP)

theorem stat_nil' (dir : ByteArray) (k : Nat) : AF.stat ⟨dir, [], [], []⟩ k = [] := by unfold AF.stat; rw [List.take_nil]; rfl
theorem durD_new' (fs : List AF.File) (dir : ByteArray) : AF.DurD fs ⟨dir, [], [], []⟩ (fun U => U = []) := by
  refine ⟨fun k hk p hp => ?_, fun k hk => ?_, fun p hp => ?_⟩
  · rw [stat_nil'] at hp; cases hp
  · rw [stat_nil']; rfl
  · cases hp
theorem er_set {A : AF.FS} {m : Nat} (h : A.fuse = none) : er { A with fuse := some m } = A := by
  unfold AF.er
  cases A
  simp only at h
  rw [h]
theorem set_fuse' {A : AF.FS} {m : Nat} : A.setFuse (m : Int) = ({ A with fuse := some m }, 0) := by
  unfold AF.FS.setFuse
  rw [if_neg (by omega)]
  rfl
def jK : ByteArray := ⟨#[106, 117, 110, 107]⟩
def jX : ByteArray := ⟨#[120]⟩
/-- The tables with something else at one version. -/
def junkG (ss : List PSl) (v k : Int) : Tb.T VT := if k = v then [(jK, jX)] else stepG ss k
theorem junkG_facts (ss : List PSl) (v k : Int) : Tb.Up (junkG ss v k) ∧ (junkG ss v k).length ≤ 60 ∧ ∀ p ∈ junkG ss v k, p.1.size + p.2.size ≤ 300 := by
  unfold junkG
  split
  · refine ⟨List.pairwise_singleton _ _, by simp, fun p hp => ?_⟩
    rw [List.mem_singleton.1 hp]
    decide
  · exact stepG_facts ss k
theorem junkG_fit (ss : List PSl) (v : Int) (d : List Ch) (D : Diffs (junkG ss v (v - 1)) (junkG ss v v) d) : Fit (chPairs d) ∧ (pairsN (chPairs d)).length ≤ 19590 := by
  obtain ⟨u1, l1, s1⟩ := junkG_facts ss v (v - 1)
  obtain ⟨u2, l2, s2⟩ := junkG_facts ss v v
  have l3 : (junkG ss v v).length = 1 := by unfold junkG; rw [if_pos rfl]; rfl
  exact (diffs_fit (n := 61) (m := 300) D u1 u2 (by omega) (by decide) s1 s2 (by decide)).imp id fun h => by omega
def keptL (ss : List PSl) (i : Nat) : List Prs := (List.range i).map fun j : Nat => stepG ss ((j + 1 : Nat) : Int)
theorem keptL_len (ss : List PSl) (i : Nat) : (keptL ss i).length = i := by unfold keptL; rw [List.length_map, List.length_range]
theorem keptL_at (ss : List PSl) (i : Nat) (j : Nat) (x : Prs) (h : (keptL ss i)[j]? = some x) : x = stepG ss ((j + 1 : Nat) : Int) := by
  have hj := (List.getElem?_eq_some_iff.1 h).1
  rw [keptL_len] at hj
  unfold keptL at h
  rw [List.getElem?_map, List.getElem?_range hj] at h
  exact (Option.some.inj h).symm
theorem keptL_succ (ss : List PSl) (i : Nat) : keptL ss (i + 1) = keptL ss i ++ [stepG ss ((i + 1 : Nat) : Int)] := by
  unfold keptL
  rw [List.range_succ, List.map_append]
  rfl
theorem KSI.few {G : Int → Tb.T VT} {i : Nat} {A : AF.FS} {S : Sto} {T : Dirc} {c : Cnt} (K : KSI G i A S T c) : S.D.length ≤ i ∧ S.N.length ≤ i :=
  ⟨len_upto K.k.sf.upD fun x hx => (K.D x).1 hx, len_upto K.k.sf.upN fun x hx => K.N x hx⟩
theorem laidD (S : Sto) (v : Int) : laidS S 100 v = { S with D := setT v () S.D } := if_pos rfl
theorem laidN (S : Sto) (v : Int) : laidS S 110 v = { S with N := setT v () S.N } := if_neg (by decide)
section
variable {h : Heap}
set_option maxHeartbeats 4000000 in
theorem StateKeeps_law {sa pa : Option Addr} {sl sc pl pc n m f : Nat} {ss : List PSl} {ps : List Int} (hm : m < 256) (hf : f < 256) (hS : RdC h sa (ss.map PSl.v)) (hsl : ss.length = sl) (hP : ∀ q ∈ ss, PIn h q) (hr : RdC h pa (ps.map iv)) (hpl : ps.length = pl) (hpc : pl ≤ pc) :
    CallsH Tryz.prog 5 [.slice sa sl sc, .int .u16 (n : Int), .int .u8 (m : Int), .int .u8 (f : Int), .slice pa pl pc] h (Good h) := by
  apply F5_ok
  unfold F5
  refine (F7_spec (sat_old h)).mono ?_
  rintro v h1 ⟨rfl, H1⟩
  rw [DB_bool, Bool.not_true, cond_false]
  by_cases hbig : 12 < sl
  · rw [decide_eq_true (show (sl : Int) > 12 by omega), cond_true]
    exact good_of H1
  rw [decide_eq_false (show ¬ (sl : Int) > 12 by omega), cond_false]
  by_cases hpb : 100 < pl
  · rw [decide_eq_true (show (pl : Int) > 100 by omega), cond_true]
    exact good_of H1
  rw [decide_eq_false (show ¬ (pl : Int) > 100 by omega), cond_false]
  have hp := pks_old hr hpl hpc
  refine (live_F14 (room := 1048576) (by decide) H1).mono ?_
  rintro v h2 ⟨fb, rfl, L0, H2⟩
  refine ⟨some ⟨fb, 0, none⟩, 0, rfl, ?_⟩
  let B0 : AF.FS := ⟨1048576, 1, none, false, [], [⟨sS, [], [], []⟩]⟩
  have hprep : AF.FS.prep ⟨1048576, 0, none, false, [], []⟩ sS = (B0, .ok []) := rfl
  obtain ⟨u0, _⟩ := AF.prep_new L0 (show AF.right sS = true by decide) rfl (by decide)
  rw [hprep] at u0
  have D0 : Dur B0 sS (fun U => U = []) := ⟨0, ⟨sS, [], [], []⟩, rfl, rfl, durD_new' _ _⟩
  have szS : sS.size = 1 := rfl
  refine (F9_spec (dir := sS) (B := B0) (ks := []) L0.wf (by decide) (by rw [szS]; omega) hprep (fun s hs => by cases hs) H2).mono ?_
  rintro v h3 ⟨b, D1, N1, rfl, hD1, hN1, _, _, H3⟩
  have none' : ∀ {D : List (Int × Unit)} {cc : Nat}, SetIs D cc [] → D = [] := fun {D cc} hD => by
    cases D with
    | nil => rfl
    | cons p D =>
      obtain ⟨v, ⟨⟩⟩ := p
      have := ((hD.2 v).1 (List.mem_cons_self ..)).2
      cases this
  have e1 := none' hD1
  have e2 := none' hN1
  subst e1 e2
  refine ⟨some ⟨b, 0, none⟩, 0, rfl, ?_⟩
  rw [show ((0 : Int) != 0) = false from rfl, cond_false, IntWalk.i64_in _ (by omega)]
  refine (F19_spec (n := (f : Int)) (H3.mv 1)).mono ?_
  rw [set_fuse']
  rintro v h4 ⟨rfl, H4⟩
  have W0 : ({ B0 with fuse := some f } : AF.FS).WF := by
    have := u0.live.wf.setFuse (n := (f : Int)) (by omega)
    rw [set_fuse'] at this
    exact this
  rw [DI_int]
  -- fs, sto, old
  refine (F15_nil H4).mono ?_
  rintro v h5 ⟨tw0, rfl, H5⟩
  refine ⟨some ⟨tw0, 0, none⟩, rfl, ?_⟩
  have cn : CntOk ⟨sS, [], []⟩ (fun _ _ => []) (stepG ss) := CntOk.new _ _ rfl (fun k => (stepG_facts ss k).1) (fun k => by have := (stepG_facts ss k).2.1; omega)
  have K0 : KSI (stepG ss) 0 { B0 with fuse := some f } ⟨sS, [], []⟩ [] (fun _ _ => []) :=
    ⟨⟨W0, by rw [er_set rfl]; exact u0.live, by rw [er_set rfl]; exact u0.here, SF.new _ _, D0⟩, rfl, cn, fun x => ⟨fun hh => (by cases hh), fun hh => (by omega)⟩, fun x hh => (by cases hh), rfl, Nat.le_refl _, (show 1 ≤ 2 by decide)⟩
  -- tw, fs, sto, old
  have HL := ownL_nil prsE 41 H5
  refine LoopH.upto sl (fun i (s : Sl × Option Addr × Int) h' => s.2.2 = (i : Int) ∧ i ≤ sl ∧ ∃ A S T c tw, s.2.1 = some ⟨tw, 0, none⟩ ∧ s.1.l = i ∧ KSI (stepG ss) i A S T c ∧
      sat (stoM b fb S :: fsP fb A :: ownL prsE 41 s.1.a s.1.l s.1.c (keptL ss i) :: old h :: [tabP tw (stepG ss (i : Int))]) h') (fun s => sl - s.2.2.toNat) (fun i s h' hh => ⟨hh.2.1, by rw [hh.1]; omega⟩)
    ⟨rfl, Nat.zero_le _, _, _, _, _, tw0, rfl, rfl, K0, HL.ordT 5 [3, 2, 0, 4, 1]⟩ ?_ ?_
  rotate_left
  · rintro ⟨al, p2, p3⟩ h6 again ⟨e3, _, A, S, T, c, tw, e1, e2, K, H6⟩
    dsimp only at e1 e2 e3 H6
    subst e1 e3
    dsimp only
    rw [decide_eq_false (by omega), cond_false]
    obtain ⟨f1, f2⟩ := K.few
    have kst := K.steps
    exact keepS_spec (d := sl) (Gs := keptL ss sl) (G := stepG ss) (F := [tabP tw (stepG ss (sl : Int))]) hp hm (by omega) e2 (keptL_len ss sl) (keptL_at ss sl) (fun k => (stepG_facts ss k).2.1) K.k.wf (by omega) (by omega) K.dir (PK.dropped K.k K.cnt K.dir (by omega) fun j h1 h2 => (K.D j).2 ⟨h1, h2⟩) H6
  rintro i ⟨al, p2, p3⟩ h6 again hi ⟨e3, _, A, S, T, c, tw, e1, e2, K, H6⟩ go
  dsimp only at e1 e2 e3 H6
  subst e1 e3
  dsimp only
  rw [decide_eq_true (show ((i : Int) < (sl : Int)) by omega), cond_true]
  obtain ⟨q, hq⟩ : ∃ x, ss[i]? = some x := ⟨_, List.getElem?_eq_getElem (by omega)⟩
  have hPq := hP q (List.mem_of_getElem? hq)
  have hget : ∀ {F' : List HProp} {h' : Heap} {K : Option Addr → Nat → Nat → Prop}, sat (old h :: F') h' → K q.a q.l q.c → IdxA sa sl (i : Int) 1 fun a => Ld h' a fun v => DSl v K := by
    intro F' h' K H' hK
    exact IdxA_nat (hS.old H') (by rw [List.length_map, hsl]) (by rw [List.getElem?_map, hq]; rfl) fun b hb hc => CSl (p := q.a) (l := q.l) (c := q.c) hc hK
  refine hget (H6.mv 3) ?_
  refine (F16_spec (hPq.old (H6.mv 3)).rd hPq.len hPq.small).mono ?_
  rintro v h7 ⟨rfl, rfl⟩
  rw [DB_bool]
  cases hb : bigL q.ps with
  | true => rw [cond_true]; exact good_of (H6.mv 3)
  | false =>
  rw [cond_false]
  obtain ⟨b1, b2⟩ := bigL_small hb
  refine hget (H6.mv 3) ?_
  refine (F17_spec (F := stoM b fb S :: fsP fb A :: ownL prsE 41 al.a al.l al.c (keptL ss i) :: old h :: [tabP tw (stepG ss (i : Int))]) (ps := q.ps) (fun h' hh => (hPq.old (hh.mv 3)).rd) hPq.len (by have := hPq.len; omega) H6).mono ?_
  rintro v h8 ⟨ra, rc, rfl, H8⟩
  rw [DSl_slice]
  have eG : stepG ss ((i + 1 : Nat) : Int) = riseL q.ps := stepG_at hq hb
  have hrl := riseL_len q.ps
  -- now, sto, fs, all, old, tw
  have H8 := sat.dup (roS_pers _ _) (roS_of H8)
  refine Al_sat H8 fun b0 h9 H9 => ?_
  refine (F15_one (k := jK) (x := jX) H9).mono ?_
  rintro v h10 ⟨tj, rfl, H10⟩
  refine ⟨some ⟨tj, 0, none⟩, rfl, ?_⟩
  rw [wrap64_succ (show i < 9223372036854775807 by omega)]
  dsimp only
  -- tj, now, now, sto, fs, all, old, tw
  obtain ⟨f1, f2⟩ := K.few
  have kst := K.steps
  have kus := K.used
  have krm := K.room
  have kdir := K.dir
  have hdz : S.dir.size < 4611686018427387904 := by rw [kdir, szS]; omega
  have vok : VOk ((i + 1 : Nat) : Int) := ⟨by omega, by omega⟩
  have vm : ((i + 1 : Nat) : Int) - 1 = (i : Int) := by omega
  have ej1 : junkG ss ((i + 1 : Nat) : Int) (((i + 1 : Nat) : Int) - 1) = stepG ss (i : Int) := by unfold junkG; rw [if_neg (by omega), vm]
  have ej2 : junkG ss ((i + 1 : Nat) : Int) ((i + 1 : Nat) : Int) = [(jK, jX)] := by unfold junkG; rw [if_pos rfl]
  have jG : ∀ k, k ≤ (i : Int) → junkG ss ((i + 1 : Nat) : Int) k = stepG ss k := fun k hk => by unfold junkG; rw [if_neg (by omega)]
  have C1 : CntOk { S with D := S.D.filter fun p => !decide (p.1 = ((i + 1 : Nat) : Int)) } c (junkG ss ((i + 1 : Nat) : Int)) :=
    K.cnt.congr (i : Int) (by omega) (fun p hp => ⟨(List.mem_filter.1 hp).1, ((K.D p.1).1 (by obtain ⟨x, ⟨⟩⟩ := p; exact (List.mem_filter.1 hp).1)).2⟩) (fun p hp => ⟨hp, (K.N p.1 (by obtain ⟨x, ⟨⟩⟩ := p; exact hp)).2⟩) jG (fun k => (junkG_facts ss _ k).1) (fun k => by have := (junkG_facts ss ((i + 1 : Nat) : Int) k).2.1; omega)
  have H11 : sat (stoM b fb S :: fsP fb A :: tabZ (some ⟨tw, 0, none⟩) (junkG ss ((i + 1 : Nat) : Int) (((i + 1 : Nat) : Int) - 1)) :: tabZ (some ⟨tj, 0, none⟩) (junkG ss ((i + 1 : Nat) : Int) ((i + 1 : Nat) : Int)) :: roS ra ((riseL q.ps).flatMap pairC) :: roS ra ((riseL q.ps).flatMap pairC) :: ownL prsE 41 al.a al.l al.c (keptL ss i) :: [old h]) h10 := by
    rw [ej1, ej2]
    exact (TS.tabZ_some ((TS.tabZ_some H10).mv 7)).ordT 8 [4, 5, 0, 1, 2, 3, 6, 7]
  -- what stands behind the loop, where a call was cut off
  have fin : ∀ {A' : AF.FS} {S' : Sto} {al' : Sl} {d : Nat} {h' : Heap} {F' : List HProp} {P : Dirc → Prop}, d ≤ 12 → al'.l = d → A'.WF → A'.off = true → A'.steps ≤ 1000 → S'.D.length + S'.N.length ≤ 40 → S'.dir = sS → Dur A' sS P → (∀ low U, P U → PK (stepG ss) d low U) →
      sat (stoM b fb S' :: fsP fb A' :: ownL prsE 41 al'.a al'.l al'.c (keptL ss d) :: old h :: F') h' → keepS (some ⟨b, 0, none⟩) (some ⟨fb, 0, none⟩) (m : Int) pa pl pc al' h' (Good h) := by
    intro A' S' al' d h' F' P hd hal W' hoff hs' hl' hd' hD hPK H'
    refine keepS_spec (d := d) (Gs := keptL ss d) (G := stepG ss) (F := F') hp hm hd hal (keptL_len ss d) (keptL_at ss d) (fun k => (stepG_facts ss k).2.1) W' hs' hl' hd' ?_ H'
    rw [drop_offd hoff]
    exact hD.mono fun U hU => hPK _ U hU
  have dAll : ∀ j, 1 ≤ j → j ≤ (i : Int) → (j, ()) ∈ S.D := fun j h1 h2 => (K.D j).2 ⟨h1, h2⟩
  refine (commit_fz (v := ((i + 1 : Nat) : Int)) (w := 19590) K.k C1 (by omega) hdz (by omega) vok (junkG_fit ss _) (by omega) H11).mono ?_
  rintro r h12 ⟨A1, T1, c1, I1, Ck1, W1, st1, ⟨rfl, K1, u1, H12⟩ | ⟨rfl, off1, D1, H12⟩⟩
  rotate_left
  · rw [DI_int, show ((60 : Int) != 0) = true from rfl, cond_true]
    rw [kdir] at D1
    refine fin (d := i) (by omega) e2 W1 off1 (by omega) (by omega) kdir D1 (fun low U hU => ?_) (H12.ordT 8 [0, 1, 6, 7])
    rcases hU with rfl | rfl
    · exact PK.of K.k.sf K.cnt kdir (fun _ _ => rfl) dAll
    · exact PK.of I1 Ck1 (by rw [laidS_dir, kdir]) jG (fun j h1 h2 => by rw [laidD]; exact (mem_setT K.k.sf.upD).2 (.inr ⟨by simp only; omega, dAll j h1 h2⟩))
  rw [DI_int, show ((0 : Int) != 0) = false from rfl, cond_false]
  have us1 : A1.used ≤ A.used + (8 + 19590) := u1.used
  have ss1 : A1.steps ≤ A.steps + 5 := u1.steps
  have rm1 : A1.room = A.room := u1.room
  have d1 : (laidS S 100 ((i + 1 : Nat) : Int)).dir = sS := by rw [laidS_dir, kdir]
  have D1m : ∀ x, (x, ()) ∈ (laidS S 100 ((i + 1 : Nat) : Int)).D ↔ 1 ≤ x ∧ x ≤ ((i + 1 : Nat) : Int) := fun x => by
    rw [laidD]
    rw [mem_setT K.k.sf.upD, K.D, Prod.mk.injEq]
    constructor
    · rintro (⟨rfl, _⟩ | ⟨_, hh⟩) <;> omega
    · intro hh
      by_cases e : x = ((i + 1 : Nat) : Int)
      · exact .inl ⟨e, rfl⟩
      · exact .inr ⟨e, by omega⟩
  have N1m : ∀ x, (x, ()) ∈ (laidS S 100 ((i + 1 : Nat) : Int)).N → 1 ≤ x ∧ x ≤ (i : Int) := fun x hx => by
    rw [laidD] at hx
    exact K.N x hx
  generalize laidS S 100 ((i + 1 : Nat) : Int) = S1 at I1 Ck1 K1 H12 d1 D1m N1m
  have l1 := len_upto (n := i + 1) K1.sf.upD fun x hx => (D1m x).1 hx
  have l1n := len_upto (n := i) K1.sf.upN N1m
  -- sto, fs, tw, tj, now, now, all, old
  refine (F15_spec (F := stoM b fb S1 :: fsP fb A1 :: tabZ (some ⟨tw, 0, none⟩) (junkG ss ((i + 1 : Nat) : Int) (((i + 1 : Nat) : Int) - 1)) :: tabZ (some ⟨tj, 0, none⟩) (junkG ss ((i + 1 : Nat) : Int) ((i + 1 : Nat) : Int)) :: roS ra ((riseL q.ps).flatMap pairC) :: roS ra ((riseL q.ps).flatMap pairC) :: ownL prsE 41 al.a al.l al.c (keptL ss i) :: [old h]) (ps := riseL q.ps) (fun h' hh => roS_read (hh.mv 4)) rfl (by omega) H12).mono ?_
  rintro v h13 ⟨t2, rfl, H13⟩
  rw [ofL_up (riseL_up q.ps)] at H13
  refine ⟨some ⟨t2, 0, none⟩, rfl, ?_⟩
  -- t2, sto, fs, tw, tj, now, now, all, old
  have H14 : sat (stoM b fb S1 :: fsP fb A1 :: tabZ (some ⟨tw, 0, none⟩) (stepG ss (((i + 1 : Nat) : Int) - 1)) :: tabZ (some ⟨t2, 0, none⟩) (stepG ss ((i + 1 : Nat) : Int)) :: roS ra ((riseL q.ps).flatMap pairC) :: roS ra ((riseL q.ps).flatMap pairC) :: ownL prsE 41 al.a al.l al.c (keptL ss i) :: [old h]) h13 := by
    rw [eG, vm]
    rw [ej1] at H13
    exact (TS.tabZ_some H13).ordT 9 [1, 2, 3, 0, 5, 6, 7, 8]
  have C2 : CntOk { S1 with D := S1.D.filter fun p => !decide (p.1 = ((i + 1 : Nat) : Int)) } c1 (stepG ss) :=
    Ck1.congr (i : Int) (by omega) (fun p hp => ⟨(List.mem_filter.1 hp).1, by
      obtain ⟨x, ⟨⟩⟩ := p
      obtain ⟨a1, a2⟩ := List.mem_filter.1 hp
      have := ((D1m x).1 a1).2
      simp only [Bool.not_eq_true', decide_eq_false_iff_not] at a2
      simp only
      omega⟩) (fun p hp => ⟨hp, (N1m p.1 (by obtain ⟨x, ⟨⟩⟩ := p; exact hp)).2⟩) (fun k hk => (jG k hk).symm) (fun k => (stepG_facts ss k).1) (fun k => by have := (stepG_facts ss k).2.1; omega)
  refine (commit_fz (v := ((i + 1 : Nat) : Int)) (w := 38530) K1 C2 (by omega) (by rw [d1, szS]; omega) (by omega) vok (stepG_fit ss _) (by omega) H14).mono ?_
  rintro r h15 ⟨A2, T2, c2, I2, Ck2, W2, st2, ⟨rfl, K2, u2, H15⟩ | ⟨rfl, off2, D2, H15⟩⟩
  rotate_left
  · rw [DI_int, show ((60 : Int) != 0) = true from rfl, cond_true]
    rw [d1] at D2
    refine fin (d := i) (by omega) e2 W2 off2 (by omega) (by omega) d1 D2 (fun low U hU => ?_) (H15.ordT 8 [0, 1, 6, 7])
    rcases hU with rfl | rfl
    · exact PK.of I1 Ck1 d1 jG (fun j h1 h2 => (D1m j).2 ⟨h1, by omega⟩)
    · exact PK.of I2 Ck2 (by rw [laidS_dir, d1]) (fun _ _ => rfl) (fun j h1 h2 => by rw [laidD]; exact (mem_setT K1.sf.upD).2 (.inr ⟨by simp only; omega, (D1m j).2 ⟨h1, by omega⟩⟩))
  rw [DI_int, show ((0 : Int) != 0) = false from rfl, cond_false]
  have us2 : A2.used ≤ A1.used + (8 + 38530) := u2.used
  have ss2 : A2.steps ≤ A1.steps + 5 := u2.steps
  have rm2 : A2.room = A1.room := u2.room
  have d2 : (laidS S1 100 ((i + 1 : Nat) : Int)).dir = sS := by rw [laidS_dir, d1]
  have D2m : ∀ x, (x, ()) ∈ (laidS S1 100 ((i + 1 : Nat) : Int)).D ↔ 1 ≤ x ∧ x ≤ ((i + 1 : Nat) : Int) := fun x => by
    rw [laidD]
    rw [mem_setT K1.sf.upD, D1m, Prod.mk.injEq]
    constructor
    · rintro (⟨rfl, _⟩ | ⟨_, hh⟩) <;> omega
    · intro hh
      by_cases e : x = ((i + 1 : Nat) : Int)
      · exact .inl ⟨e, rfl⟩
      · exact .inr ⟨e, hh⟩
  have N2m : ∀ x, (x, ()) ∈ (laidS S1 100 ((i + 1 : Nat) : Int)).N → 1 ≤ x ∧ x ≤ (i : Int) := fun x hx => by
    rw [laidD] at hx
    exact N1m x hx
  generalize laidS S1 100 ((i + 1 : Nat) : Int) = S2 at I2 Ck2 K2 H15 d2 D2m N2m
  have l2 := len_upto (n := i + 1) K2.sf.upD fun x hx => (D2m x).1 hx
  have l2n := len_upto (n := i) K2.sf.upN N2m
  -- sto, fs, tw, t2, now, now, all, old
  refine Al_sat H15 fun b3 h16 H16 => ?_
  -- b3, sto, fs, tw, t2, now, now, all, old
  have H17 := prsE_mk (c := rc) (H16.mv 5)
  -- E, b3, sto, fs, tw, t2, now, all, old
  refine pushL (P := Tryz.prog) (t := 34) (u := 34) (e := 41) (b := 24) (v := .slice ra (riseL q.ps).length rc) (x := riseL q.ps) (E := prsE) Tryz.underlying34 (by kernel_rfl) (by kernel_rfl) (by rw [e2]; omega) (H17.ordT 9 [7, 0, 1, 2, 3, 4, 5, 6, 8]) rfl (RdCf (H17.mv 1) rfl) fun a' c' h17 H18 => ?_
  -- all, b3, sto, fs, tw, t2, now, old
  rw [DSl_slice]
  rw [← eG, ← keptL_succ] at H18
  rw [e2] at H18 ⊢
  refine (F15_spec (F := ownL prsE 41 a' (i + 1) c' (keptL ss (i + 1)) :: pt b3 (.cells #[.slice ra (riseL q.ps).length rc] 41 (0, 0)) :: stoM b fb S2 :: fsP fb A2 :: tabZ (some ⟨tw, 0, none⟩) (stepG ss (((i + 1 : Nat) : Int) - 1)) :: tabZ (some ⟨t2, 0, none⟩) (stepG ss ((i + 1 : Nat) : Int)) :: roS ra ((stepG ss ((i + 1 : Nat) : Int)).flatMap pairC) :: [old h]) (ps := riseL q.ps) (fun h' hh => by rw [← eG]; exact roS_read (hh.mv 6)) rfl (by omega) (by rw [← eG]; exact H18)).mono ?_
  rintro v h18 ⟨t3, rfl, H19⟩
  rw [ofL_up (riseL_up q.ps), ← eG] at H19
  refine ⟨some ⟨t3, 0, none⟩, rfl, ?_⟩
  -- t3, all, b3, sto, fs, tw, t2, now, old
  rw [IntWalk.u64_in (i : Int) (by omega)]
  refine ⟨by omega, ?_⟩
  have H20 : sat (stoM b fb S2 :: fsP fb A2 :: ownL prsE 41 a' (i + 1) c' (keptL ss (i + 1)) :: old h :: [tabP t3 (stepG ss ((i + 1 : Nat) : Int))]) h18 := H19.ordT 9 [3, 4, 1, 8, 0]
  have K2i : KSI (stepG ss) (i + 1) A2 S2 T2 c2 := ⟨K2, d2, Ck2, D2m, fun x hx => by have := N2m x hx; omega, by omega, by omega, by omega⟩
  cases hbit : ((bitsI .and .u16 (shrI .u16 (n : Int) (i : Int)) 1) == 1) with
  | false =>
    rw [cond_false]
    exact go _ _ ⟨rfl, by omega, A2, S2, T2, c2, t3, rfl, rfl, K2i, H20⟩
  | true =>
    rw [cond_true]
    refine (snap_fz (v := ((i + 1 : Nat) : Int)) (w := 19210) K2 Ck2 (by omega) (by rw [d2, szS]; omega) (by omega) vok (stepG_fitS ss _) (by omega) (fun hh => by have := N2m _ hh; omega) (fun k h1 h2 => (D2m k).2 ⟨by omega, h2⟩) H20).mono ?_
    rintro r h19 ⟨A3, T3, c3, I3, Ck3, W3, st3, ⟨rfl, K3, u3, H21⟩ | ⟨rfl, off3, D3, H21⟩⟩
    · have us3 : A3.used ≤ A2.used + (8 + 19210) := u3.used
      have ss3 : A3.steps ≤ A2.steps + 5 := u3.steps
      have rm3 : A3.room = A2.room := u3.room
      rw [DI_int, show ((0 : Int) != 0) = false from rfl, cond_false]
      refine go _ _ ⟨rfl, by omega, A3, _, T3, c3, t3, rfl, rfl, ⟨K3, by rw [laidS_dir, d2], Ck3, fun x => by rw [laidN]; exact D2m x, fun x hx => ?_, by omega, by omega, by omega⟩, H21⟩
      rw [laidN] at hx
      rcases (mem_setT K2.sf.upN).1 hx with e | ⟨_, hx⟩
      · rw [Prod.mk.injEq] at e
        omega
      · have := N2m x hx
        omega
    · rw [DI_int, show ((60 : Int) != 0) = true from rfl, cond_true]
      rw [d2] at D3
      refine fin (al' := ⟨a', i + 1, c'⟩) (d := i + 1) (by omega) rfl W3 off3 (by omega) (by omega) d2 D3 (fun low U hU => ?_) H21
      rcases hU with rfl | rfl
      · exact PK.of K2.sf Ck2 d2 (fun _ _ => rfl) (fun j h1 h2 => (D2m j).2 ⟨h1, h2⟩)
      · exact PK.of I3 Ck3 (by rw [laidS_dir, d2]) (fun _ _ => rfl) (fun j h1 h2 => by rw [laidN]; exact (D2m j).2 ⟨h1, h2⟩)
end
end Go.Proofs.YtibdiikcigokjaaGreat
